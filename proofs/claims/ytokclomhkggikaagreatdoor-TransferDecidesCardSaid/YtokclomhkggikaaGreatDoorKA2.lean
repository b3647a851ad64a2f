/-
 slices.IndexFunc and slices.ContainsFunc; printed by a program of mine.
 The data of intents as plain Lean data, and as pure values.
 Lists of ranges: canonical ones with the same members are equal; merging a sorted list makes one.
 The common part of two canonical lists, computed with two pointers; a test whether a list is canonical.
 Packet sets, plain: the canonical form as the reference and as the program compute it; they are the same.
 The data of boxes, tables, ports and networks as plain Lean data, and as pure values.
-/
import Derived.Test.YtokclomhkggikaaGreatDoorKTab
import Derived.Test.YtokclomhkggikaaGreatDoorJPwShort
import Derived.Test.YtokclomhkggikaaGreatDoorJPwAuto
set_option maxHeartbeats 20000000
set_option maxRecDepth 100000
namespace Go.Proofs.YtokclomhkggikaaGreatDoor
open Go Go.Pw
section
variable {Gl : Glob}
attribute [local irreducible] PW PWL OpP PCalls PWO
def mask (n : Int) : Int := IntKind.u32.wrap (4294967295 * 2 ^ (min (32 - n).toNat 32))
def andN (a b : Int) : Int := IntKind.u32.wrap (BitVec.ofInt 32 a &&& ~~~ BitVec.ofInt 32 b).toNat
def andB (a b : Int) : Int := IntKind.u32.wrap (BitVec.ofInt 32 a &&& BitVec.ofInt 32 b).toNat
theorem c90 (n : Int) (h0 : 0 ≤ n) (h1 : n ≤ 32) : PFun Tryz.prog Gl 73 [.int .i64 n] fun r => r = .int .u32 (mask n) := by
 refine PFun.of hT Tryz.func73 rfl fun B hD => ?_
 refine pw_norm rfl ?_
 (refine zGo ?_)
 (refine pl_op rfl (op_of (v_conv (c := 32 - n) hT rfl rfl rfl rfl (IntWalk.u64_in _ (by omega))) ?_); (refine zNp ?_))
 (refine pl_op rfl (op_of (v_shl rfl rfl rfl (by omega) rfl) ?_); (refine zNp ?_))
 (refine zGo ?_)
 refine ret1 _ rfl rfl rfl
def pvalid (p : TPfx) : Bool := decide (0 ≤ p.bits) && decide (p.bits ≤ 32) && (andN p.addr (mask p.bits) == 0)
theorem pvalid_bits {p : TPfx} (h : pvalid p = true) : 0 ≤ p.bits ∧ p.bits ≤ 32 := by
 simp only [pvalid, Bool.and_eq_true, decide_eq_true_eq] at h
 exact h.1
theorem c45 (p : TPfx) : PFun Tryz.prog Gl 72 [ePfx p] fun r => r = .bool (pvalid p) := by
 refine PFun.of hT Tryz.func72 rfl fun B hD => ?_
 refine pw_norm rfl ?_
 (refine zGo ?_)
 refine zDr [[0,1,2,3,4,5,6,7,8,9,10,11,12],[13],[14,15,16,17]] ?_
 (refine zDgo ?_)
 refine po_split 6 rfl (fun h => ?_) (fun h => ?_)
 ·(refine zDgo ?_)
  refine po_split 11 rfl (fun h2 => ?_) (fun h2 => ?_)
  ·(refine zDgo ?_)
   have h' := h
   have h2' := h2
   simp only [decide_eq_true_eq, ge_iff_le] at h' h2'
   (refine po_on rfl rfl rfl (op_fun (c90 p.bits h' h2') rfl rfl e73 zLe rfl (fun r hr => ?_)); subst hr; refine ⟨rfl, zLok, ?_⟩; refine zDn ?_)
   (refine po_gval rfl rfl rfl (v_bits rfl rfl rfl rfl rfl) ?_; refine zDn ?_)
   (refine zDgo ?_)
   (refine zGo ?_)
   refine ret1 _ rfl ?_ rfl
   simp only [pvalid, h', h2', decide_true, Bool.true_and]
   rfl
  ·(refine zDgo ?_)
   (refine zGo ?_)
   refine ret1 _ rfl ?_ rfl
   simp [pvalid, h2]
 ·(refine zDgo ?_)
  (refine zGo ?_)
  refine ret1 _ rfl ?_ rfl
  have h' : ¬ (0 ≤ p.bits) := by simpa using h
  simp [pvalid, h']
def pcont (p : TPfx) (a : Int) : Bool := pvalid p && (andB a (mask p.bits) == p.addr)
theorem c57 (p : TPfx) (a : Int) : PFun Tryz.prog Gl 29 [ePfx p, .int .u32 a] fun r => r = .bool (pcont p a) := by
 refine PFun.of hT Tryz.func29 rfl fun B hD => ?_
 refine pw_norm rfl ?_
 (refine zGo ?_)
 refine zDr [[0],[1],[2,3,4,5,8,9],[6],[7,10,11,12]] ?_
 (refine zDgo ?_)
 (refine po_step rfl rfl (op_fun (c45 p) rfl rfl e72 zLe rfl (fun r hr => ?_)); subst hr; refine ⟨rfl, zLok, ?_⟩; refine zDn ?_)
 (refine zDgo ?_)
 refine po_split 7 rfl (fun h => ?_) (fun h => ?_)
 ·(refine zDgo ?_)
  have hb := pvalid_bits h
  (refine po_on rfl rfl rfl (op_fun (c90 p.bits hb.1 hb.2) rfl rfl e73 zLe rfl (fun r hr => ?_)); subst hr; refine ⟨rfl, zLok, ?_⟩; refine zDn ?_)
  (refine po_gval rfl rfl rfl (v_bits rfl rfl rfl rfl rfl) ?_; refine zDn ?_)
  (refine zDgo ?_)
  (refine zGo ?_)
  refine ret1 _ rfl ?_ rfl
  simp only [pcont, h, Bool.true_and]
  rfl
 ·(refine zDgo ?_)
  (refine zGo ?_)
  refine ret1 _ rfl ?_ rfl
  simp [pcont, h]
def pcov (p q : TPfx) : Bool := pvalid q && decide (p.bits ≤ q.bits) && pcont p q.addr
theorem c89 (p q : TPfx) : PFun Tryz.prog Gl 218 [ePfx p, ePfx q] fun r => r = .bool (pcov p q) := by
 refine PFun.of hT Tryz.func218 rfl fun B hD => ?_
 refine pw_norm rfl ?_
 (refine zGo ?_)
 (refine pl_op rfl (op_fun (c45 q) rfl rfl e72 zLe rfl (fun r hr => ?_)); subst hr; refine ⟨rfl, ?_⟩; (refine zNp ?_))
 (refine zGo ?_)
 refine pl_split 7 rfl (fun h => ?_) (fun h => ?_)
 ·(refine zGo ?_)
  refine pl_split 14 rfl (fun h2 => ?_) (fun h2 => ?_)
  ·(refine zGo ?_)
   (refine pl_on rfl rfl (op_fun (c57 p q.addr) rfl rfl e29 zLe rfl (fun r hr => ?_)); subst hr; refine ⟨rfl, ?_⟩; (refine zNp ?_))
   (refine zGo ?_)
   refine ret1 _ rfl ?_ rfl
   simp only [pcov, h, h2, Bool.true_and]
  ·(refine zGo ?_)
   refine ret1 _ rfl ?_ rfl
   simp only [pcov, h, h2, Bool.true_and, Bool.false_and]
 ·(refine zGo ?_)
  refine ret1 _ rfl ?_ rfl
  simp only [pcov, h, Bool.false_and]
def pover (p q : TPfx) : Bool := pcov p q || pcov q p
theorem c44 (p q : TPfx) : PFun Tryz.prog Gl 160 [ePfx p, ePfx q] fun r => r = .bool (pover p q) := by
 refine PFun.of hT Tryz.func160 rfl fun B hD => ?_
 refine pw_norm rfl ?_
 (refine zGo ?_)
 (refine pl_op rfl (op_fun (c89 p q) rfl rfl e218 zLe rfl (fun r hr => ?_)); subst hr; refine ⟨rfl, ?_⟩; (refine zNp ?_))
 (refine zGo ?_)
 refine pl_split 8 rfl (fun h => ?_) (fun h => ?_)
 ·(refine zGo ?_)
  refine ret1 _ rfl ?_ rfl
  simp only [pover, h, Bool.true_or]
 ·(refine zGo ?_)
  (refine pl_on rfl rfl (op_fun (c89 q p) rfl rfl e218 zLe rfl (fun r hr => ?_)); subst hr; refine ⟨rfl, ?_⟩; (refine zNp ?_))
  (refine zGo ?_)
  refine ret1 _ rfl ?_ rfl
  simp only [pover, h, Bool.false_or]
theorem c86 {f : FuncId} (hf : Enters Tryz.prog f) {cs : List PV} (hcs : cs.all (PV.refs (fun _ => false) 5) = true) {xs : List TDev} (hl : Small xs) {p : TDev → Bool} (hp : ∀ x ∈ xs, PCalls Tryz.prog Gl f [eDev x, .ptr 0 0] [.box cs] fun r s => r = .bool (p x) ∧ s = [.box cs]) :
  PCalls Tryz.prog Gl 215 [.sl (xs.map eDev), .fn f [.ptr 0 0]] [.box cs] fun r s => r = .int .i64 (firstAt p xs) ∧ s = [.box cs] := by
 refine PCalls.of hT Tryz.func215 rfl 1 (Nat.le_refl _) fun B hD => ?_
 refine pw_normE rfl ?_
 (refine zGo ?_)
 refine pw_for hD (fun i : Nat => [(8, .int .i64 i)]) (fun _ => [.box cs]) (fun i => i ≤ xs.length ∧ ∀ (j : Nat) d, j < i → xs[j]? = some d → p d = false) (fun i => xs.length - i) 0 ⟨by omega, by intro j d h; omega⟩ 1 rfl (fun _ => rfl) (StLe.refl _) (fun _ => rfl) (fun _ => both rfl (box1 hcs _)) zLe ?_
 rintro i ⟨hi, hno⟩
 unfold Small at hl
 (refine zGo ?_)
 refine pw_cond rfl (fun h => ?_) (fun h => ?_)
 ·simp only [decide_eq_true_eq, List.length_map] at h
  have hlt : i < xs.length := by omega
  (refine zGo ?_)
  (refine pl_op rfl (op_of (v_index (p := eDev xs[i]) hT rfl rfl rfl rfl (by omega) (by simp [hlt]) rfl) ?_); refine pl_normE rfl ?_)
  (refine zGo ?_)
  refine pl_op rfl (op_pred (v := eDev xs[i]) hcs (hp xs[i] (List.getElem_mem hlt)) rfl rfl rfl rfl hf rfl ?_); refine pl_normE rfl ?_
  (refine zGo ?_)
  refine pw_cond rfl (fun h2 => ?_) (fun h2 => ?_)
  ·(refine zGo ?_)
   exact ⟨_, _, _, rfl, ⟨by rw [firstAt_hit hlt h2 hno]; rfl, rfl⟩, .inr (.inl rfl), ⟨.inr (.inl rfl), trivial⟩, rfl, box1 hcs _⟩
  ·(refine zGo ?_)
   refine ⟨i + 1, ⟨by omega, fun j d hj hd => ?_⟩, by omega, zLe, StLe.refl _⟩
   rcases Nat.lt_succ_iff_lt_or_eq.1 hj with hj | rfl
   ·exact hno j d hj hd
   ·rw [List.getElem?_eq_getElem hlt] at hd; cases hd; exact h2
 ·simp only [decide_eq_false_iff_not, List.length_map] at h
  (refine zGo ?_)
  exact ⟨_, _, _, rfl, ⟨by rw [firstAt_miss fun j x hj => hno j x (by have := (List.getElem?_eq_some_iff.1 hj).1; omega) hj]; rfl, rfl⟩, .inr (.inl rfl), ⟨.inr (.inl rfl), trivial⟩, rfl, box1 hcs _⟩
theorem c55 {f : FuncId} (hf : Enters Tryz.prog f) {cs : List PV} (hcs : cs.all (PV.refs (fun _ => false) 5) = true) {xs : List TEdge} (hl : Small xs) {p : TEdge → Bool} (hp : ∀ x ∈ xs, PCalls Tryz.prog Gl f [eEdge x, .ptr 0 0] [.box cs] fun r s => r = .bool (p x) ∧ s = [.box cs]) :
  PCalls Tryz.prog Gl 163 [.sl (xs.map eEdge), .fn f [.ptr 0 0]] [.box cs] fun r s => r = .int .i64 (firstAt p xs) ∧ s = [.box cs] := by
 refine PCalls.of hT Tryz.func163 rfl 1 (Nat.le_refl _) fun B hD => ?_
 refine pw_normE rfl ?_
 (refine zGo ?_)
 refine pw_for hD (fun i : Nat => [(8, .int .i64 i)]) (fun _ => [.box cs]) (fun i => i ≤ xs.length ∧ ∀ (j : Nat) d, j < i → xs[j]? = some d → p d = false) (fun i => xs.length - i) 0 ⟨by omega, by intro j d h; omega⟩ 1 rfl (fun _ => rfl) (StLe.refl _) (fun _ => rfl) (fun _ => both rfl (box1 hcs _)) zLe ?_
 rintro i ⟨hi, hno⟩
 unfold Small at hl
 (refine zGo ?_)
 refine pw_cond rfl (fun h => ?_) (fun h => ?_)
 ·simp only [decide_eq_true_eq, List.length_map] at h
  have hlt : i < xs.length := by omega
  (refine zGo ?_)
  (refine pl_op rfl (op_of (v_index (p := eEdge xs[i]) hT rfl rfl rfl rfl (by omega) (by simp [hlt]) rfl) ?_); refine pl_normE rfl ?_)
  (refine zGo ?_)
  refine pl_op rfl (op_pred (v := eEdge xs[i]) hcs (hp xs[i] (List.getElem_mem hlt)) rfl rfl rfl rfl hf rfl ?_); refine pl_normE rfl ?_
  (refine zGo ?_)
  refine pw_cond rfl (fun h2 => ?_) (fun h2 => ?_)
  ·(refine zGo ?_)
   exact ⟨_, _, _, rfl, ⟨by rw [firstAt_hit hlt h2 hno]; rfl, rfl⟩, .inr (.inl rfl), ⟨.inr (.inl rfl), trivial⟩, rfl, box1 hcs _⟩
  ·(refine zGo ?_)
   refine ⟨i + 1, ⟨by omega, fun j d hj hd => ?_⟩, by omega, zLe, StLe.refl _⟩
   rcases Nat.lt_succ_iff_lt_or_eq.1 hj with hj | rfl
   ·exact hno j d hj hd
   ·rw [List.getElem?_eq_getElem hlt] at hd; cases hd; exact h2
 ·simp only [decide_eq_false_iff_not, List.length_map] at h
  (refine zGo ?_)
  exact ⟨_, _, _, rfl, ⟨by rw [firstAt_miss fun j x hj => hno j x (by have := (List.getElem?_eq_some_iff.1 hj).1; omega) hj]; rfl, rfl⟩, .inr (.inl rfl), ⟨.inr (.inl rfl), trivial⟩, rfl, box1 hcs _⟩
theorem c55n {f : FuncId} (hf : Enters Tryz.prog f) {xs : List TEdge} (hl : Small xs) {p : TEdge → Bool} (hp : ∀ x ∈ xs, PFun Tryz.prog Gl f [eEdge x] fun r => r = .bool (p x)) :
  PFun Tryz.prog Gl 163 [.sl (xs.map eEdge), .fn f []] fun r => r = .int .i64 (firstAt p xs) := by
 refine PFun.of hT Tryz.func163 rfl fun B hD => ?_
 refine pw_normE rfl ?_
 (refine zGo ?_)
 refine pw_for hD (fun i : Nat => [(8, .int .i64 i)]) (fun _ => []) (fun i => i ≤ xs.length ∧ ∀ (j : Nat) d, j < i → xs[j]? = some d → p d = false) (fun i => xs.length - i) 0 ⟨by omega, by intro j d h; omega⟩ 0 rfl (fun _ => rfl) (StLe.refl _) (fun _ => rfl) (fun _ => rfl) zLe ?_
 rintro i ⟨hi, hno⟩
 unfold Small at hl
 (refine zGo ?_)
 refine pw_cond rfl (fun h => ?_) (fun h => ?_)
 ·simp only [decide_eq_true_eq, List.length_map] at h
  have hlt : i < xs.length := by omega
  (refine zGo ?_)
  (refine pl_op rfl (op_of (v_index (p := eEdge xs[i]) hT rfl rfl rfl rfl (by omega) (by simp [hlt]) rfl) ?_); refine pl_normE rfl ?_)
  (refine zGo ?_)
  refine pl_op rfl (op_fun (hp xs[i] (List.getElem_mem hlt)) rfl rfl hf zLe rfl (fun r hr => ?_)); subst hr; refine ⟨rfl, ?_⟩; refine pl_normE rfl ?_
  (refine zGo ?_)
  refine pw_cond rfl (fun h2 => ?_) (fun h2 => ?_)
  ·(refine zGo ?_)
   exact ret1 _ rfl (by rw [firstAt_hit hlt h2 hno]) rfl
  ·(refine zGo ?_)
   refine ⟨i + 1, ⟨by omega, fun j d hj hd => ?_⟩, by omega, zLe, StLe.refl _⟩
   rcases Nat.lt_succ_iff_lt_or_eq.1 hj with hj | rfl
   ·exact hno j d hj hd
   ·rw [List.getElem?_eq_getElem hlt] at hd; cases hd; exact h2
 ·simp only [decide_eq_false_iff_not, List.length_map] at h
  (refine zGo ?_)
  exact ret1 _ rfl (by rw [firstAt_miss fun j x hj => hno j x (by have := (List.getElem?_eq_some_iff.1 hj).1; omega) hj]) rfl
theorem c91 {f : FuncId} (hf : Enters Tryz.prog f) {cs : List PV} (hcs : cs.all (PV.refs (fun _ => false) 5) = true) {xs : List TPfx} (hl : Small xs) {p : TPfx → Bool} (hp : ∀ x ∈ xs, PCalls Tryz.prog Gl f [ePfx x, .ptr 0 0] [.box cs] fun r s => r = .bool (p x) ∧ s = [.box cs]) :
  PCalls Tryz.prog Gl 219 [.sl (xs.map ePfx), .fn f [.ptr 0 0]] [.box cs] fun r s => r = .int .i64 (firstAt p xs) ∧ s = [.box cs] := by
 refine PCalls.of hT Tryz.func219 rfl 1 (Nat.le_refl _) fun B hD => ?_
 refine pw_normE rfl ?_
 (refine zGo ?_)
 refine pw_for hD (fun i : Nat => [(8, .int .i64 i)]) (fun _ => [.box cs]) (fun i => i ≤ xs.length ∧ ∀ (j : Nat) d, j < i → xs[j]? = some d → p d = false) (fun i => xs.length - i) 0 ⟨by omega, by intro j d h; omega⟩ 1 rfl (fun _ => rfl) (StLe.refl _) (fun _ => rfl) (fun _ => both rfl (box1 hcs _)) zLe ?_
 rintro i ⟨hi, hno⟩
 unfold Small at hl
 (refine zGo ?_)
 refine pw_cond rfl (fun h => ?_) (fun h => ?_)
 ·simp only [decide_eq_true_eq, List.length_map] at h
  have hlt : i < xs.length := by omega
  (refine zGo ?_)
  (refine pl_op rfl (op_of (v_index (p := ePfx xs[i]) hT rfl rfl rfl rfl (by omega) (by simp [hlt]) rfl) ?_); refine pl_normE rfl ?_)
  (refine zGo ?_)
  refine pl_op rfl (op_pred (v := ePfx xs[i]) hcs (hp xs[i] (List.getElem_mem hlt)) rfl rfl rfl rfl hf rfl ?_); refine pl_normE rfl ?_
  (refine zGo ?_)
  refine pw_cond rfl (fun h2 => ?_) (fun h2 => ?_)
  ·(refine zGo ?_)
   exact ⟨_, _, _, rfl, ⟨by rw [firstAt_hit hlt h2 hno]; rfl, rfl⟩, .inr (.inl rfl), ⟨.inr (.inl rfl), trivial⟩, rfl, box1 hcs _⟩
  ·(refine zGo ?_)
   refine ⟨i + 1, ⟨by omega, fun j d hj hd => ?_⟩, by omega, zLe, StLe.refl _⟩
   rcases Nat.lt_succ_iff_lt_or_eq.1 hj with hj | rfl
   ·exact hno j d hj hd
   ·rw [List.getElem?_eq_getElem hlt] at hd; cases hd; exact h2
 ·simp only [decide_eq_false_iff_not, List.length_map] at h
  (refine zGo ?_)
  exact ⟨_, _, _, rfl, ⟨by rw [firstAt_miss fun j x hj => hno j x (by have := (List.getElem?_eq_some_iff.1 hj).1; omega) hj]; rfl, rfl⟩, .inr (.inl rfl), ⟨.inr (.inl rfl), trivial⟩, rfl, box1 hcs _⟩
theorem c83n {f : FuncId} (hf : Enters Tryz.prog f) {xs : List TEdge} (hl : Small xs) {p : TEdge → Bool} (hp : ∀ x ∈ xs, PFun Tryz.prog Gl f [eEdge x] fun r => r = .bool (p x)) :
  PFun Tryz.prog Gl 110 [.sl (xs.map eEdge), .fn f []] fun r => r = .bool (xs.any p) := by
 refine PFun.of hT Tryz.func110 rfl fun B hD => ?_
 refine pw_normE rfl ?_
 (refine zGo ?_)
 refine pl_op rfl (op_fun (c55n hf hl hp) rfl rfl e163 zLe rfl (fun r hr => ?_)); subst hr; refine ⟨rfl, ?_⟩; refine pl_normE rfl ?_
 (refine zGo ?_)
 exact ret1 _ rfl (by rw [firstAt_any]) rfl
theorem c46 {f : FuncId} (hf : Enters Tryz.prog f) {cs : List PV} (hcs : cs.all (PV.refs (fun _ => false) 5) = true) {xs : List TPfx} (hl : Small xs) {p : TPfx → Bool} (hp : ∀ x ∈ xs, PCalls Tryz.prog Gl f [ePfx x, .ptr 0 0] [.box cs] fun r s => r = .bool (p x) ∧ s = [.box cs]) :
  PCalls Tryz.prog Gl 161 [.sl (xs.map ePfx), .fn f [.ptr 0 0]] [.box cs] fun r s => r = .bool (xs.any p) ∧ s = [.box cs] := by
 refine PCalls.of hT Tryz.func161 rfl 1 (Nat.le_refl _) fun B hD => ?_
 refine pw_normE rfl ?_
 (refine zGo ?_)
 refine pl_op rfl (op_call [0] rfl rfl e219 (by simp) rfl rfl (by simp only [List.all_cons, List.all_nil, Bool.and_true, List.getD_cons_zero]; exact (by simpa using box1 hcs [0].contains)) (cargs := [.sl (xs.map ePfx), .fn f [.ptr 0 0]]) (cst := [.box cs]) zLe (by simp only [selSt, List.map_cons, List.map_nil, List.getD_cons_zero, PObj.ren_none hcs]; exact StLe.refl _) (c91 hf hcs hl hp) ?_)
 rintro r s ⟨rfl, rfl⟩
 refine ⟨rfl, box1 hcs _, ?_⟩
 simp only [List.map_cons, List.map_nil, PObj.ren_none hcs]
 refine pl_normE rfl ?_
 (refine zGo ?_)
 exact ⟨_, _, _, rfl, ⟨by rw [firstAt_any]; rfl, rfl⟩, .inr (.inl rfl), ⟨.inr (.inl rfl), trivial⟩, rfl, box1 hcs _⟩
theorem c87 (name : Str) (d : TDev) : PCalls Tryz.prog Gl 216 [eDev d, .ptr 0 0] [.box [.str name]] fun r st => r = .bool (d.name == name) ∧ st = [.box [.str name]] := by
 refine PCalls.of hT Tryz.func216 rfl 1 (Nat.le_refl _) fun B hD => ?_
 refine pw_norm rfl ?_
 (refine zGo ?_)
 exact ⟨_, _, _, rfl, ⟨rfl, rfl⟩, .inr (.inl rfl), ⟨.inr (.inl rfl), trivial⟩, rfl, rfl⟩
theorem c88 (name : Str) (d : TEdge) : PCalls Tryz.prog Gl 217 [eEdge d, .ptr 0 0] [.box [.str name]] fun r st => r = .bool (d.name == name) ∧ st = [.box [.str name]] := by
 refine PCalls.of hT Tryz.func217 rfl 1 (Nat.le_refl _) fun B hD => ?_
 refine pw_norm rfl ?_
 (refine zGo ?_)
 exact ⟨_, _, _, rfl, ⟨rfl, rfl⟩, .inr (.inl rfl), ⟨.inr (.inl rfl), trivial⟩, rfl, rfl⟩
theorem c84 (d : TEdge) : PFun Tryz.prog Gl 111 [eEdge d] fun r => r = .bool d.planned := by
 refine PFun.of hT Tryz.func111 rfl fun B hD => ?_
 refine pw_norm rfl ?_
 (refine zGo ?_)
 refine ret1 _ rfl rfl rfl
theorem c47 (p q : TPfx) : PCalls Tryz.prog Gl 162 [ePfx q, .ptr 0 0] [.box [.int .u32 p.addr, .int .i64 p.bits]] fun r st => r = .bool (pover p q) ∧ st = [.box [.int .u32 p.addr, .int .i64 p.bits]] := by
 refine PCalls.of hT Tryz.func162 rfl 1 (Nat.le_refl _) fun B hD => ?_
 refine pw_norm rfl ?_
 (refine zGo ?_)
 (refine pl_op rfl (op_fun (c44 p q) rfl rfl e160 zLe rfl (fun r hr => ?_)); subst hr; refine ⟨rfl, ?_⟩; (refine zNp ?_))
 (refine zGo ?_)
 exact ⟨_, _, _, rfl, ⟨rfl, rfl⟩, .inr (.inl rfl), ⟨.inr (.inl rfl), trivial⟩, rfl, rfl⟩
def tDevice (t : Topo) (name : Str) : Int := firstAt (fun d => d.name == name) t.devs
def tEdge (t : Topo) (name : Str) : Int := firstAt (fun d => d.name == name) t.edges
theorem c41 (t : Topo) (name : Str) (hl : Small t.devs) : PFun Tryz.prog Gl 157 [eTopo t, .str name] fun r => r = .int .i64 (tDevice t name) := by
 refine PFun.of hT Tryz.func157 rfl fun B hD => ?_
 refine pw_norm rfl ?_
 (refine zGo ?_)
 (refine pl_op rfl (op_call [1] rfl rfl e215 (by decide) rfl rfl rfl zLe zLes (c86 e216 (by rfl) hl fun x _ => c87 name x) (fun r s hq => ?_)); obtain ⟨rfl, rfl⟩ := hq; refine ⟨rfl, rfl, ?_⟩; (refine zNp ?_))
 (refine zGo ?_)
 refine ret1 _ rfl rfl rfl
theorem c43 (t : Topo) (name : Str) (hl : Small t.edges) : PFun Tryz.prog Gl 159 [eTopo t, .str name] fun r => r = .int .i64 (tEdge t name) := by
 refine PFun.of hT Tryz.func159 rfl fun B hD => ?_
 refine pw_norm rfl ?_
 (refine zGo ?_)
 (refine pl_op rfl (op_call [1] rfl rfl e163 (by decide) rfl rfl rfl zLe zLes (c55 e217 (by rfl) hl fun x _ => c88 name x) (fun r s hq => ?_)); obtain ⟨rfl, rfl⟩ := hq; refine ⟨rfl, rfl, ?_⟩; (refine zNp ?_))
 (refine zGo ?_)
 refine ret1 _ rfl rfl rfl
def tEdges (t : Topo) (n : Int) : List Int := idxs (fun e => e.dev == n) t.edges
def rsize (n : Int) : Int := IntKind.u64.wrap (1 * 2 ^ (min (32 - n).toNat 64))
theorem c94 (n : Int) (h0 : 0 ≤ n) (h1 : n ≤ 32) : PFun Tryz.prog Gl 107 [.int .i64 n] fun r => r = .int .u64 (rsize n) := by
 refine PFun.of hT Tryz.func107 rfl fun B hD => ?_
 refine pw_norm rfl ?_
 (refine zGo ?_)
 (refine pl_op rfl (op_of (v_conv (c := 32 - n) hT rfl rfl rfl rfl (IntWalk.u64_in _ (by omega))) ?_); (refine zNp ?_))
 (refine pl_op rfl (op_of (v_shl rfl rfl rfl (by omega) rfl) ?_); (refine zNp ?_))
 (refine zGo ?_)
 refine ret1 _ rfl rfl rfl
theorem pow2 (k : Nat) : (2 : Int) ^ k = ((2 ^ k : Nat) : Int) := by simp
theorem rsize_eq (n : Int) (h0 : 0 ≤ n) (h1 : n ≤ 32) : rsize n = ((2 ^ (32 - n).toNat : Nat) : Int) := by
 unfold rsize
 rw [Nat.min_eq_left (by omega), Int.one_mul, pow2]
 have h : (32 - n).toNat ≤ 32 := by omega
 have h2 : (2 : Nat) ^ (32 - n).toNat ≤ 2 ^ 32 := Nat.pow_le_pow_right (by omega) h
 generalize (2 : Nat) ^ (32 - n).toNat = m at *
 exact IntWalk.u64_in _ (by omega)
theorem rsize_pos (n : Int) (h0 : 0 ≤ n) (h1 : n ≤ 32) : 0 < rsize n ∧ rsize n ≤ 4294967296 := by
 rw [rsize_eq n h0 h1]
 have h : (32 - n).toNat ≤ 32 := by omega
 have h2 : (2 : Nat) ^ (32 - n).toNat ≤ 2 ^ 32 := Nat.pow_le_pow_right (by omega) h
 have h3 : 0 < (2 : Nat) ^ (32 - n).toNat := Nat.pow_pos (by omega)
 omega
def rvalid (p : TPfx) : Bool := decide (0 ≤ p.bits) && decide (p.bits ≤ 32) && ((IntKind.u64.wrap p.addr).tmod (rsize p.bits) == 0)
theorem rvalid_bits {p : TPfx} (h : rvalid p = true) : 0 ≤ p.bits ∧ p.bits ≤ 32 := by
 simp only [rvalid, Bool.and_eq_true, decide_eq_true_eq] at h
 exact h.1
theorem c53 (p : TPfx) : PFun Tryz.prog Gl 106 [ePfx p] fun r => r = .bool (rvalid p) := by
 refine PFun.of hT Tryz.func106 rfl fun B hD => ?_
 refine pw_norm rfl ?_
 (refine zGo ?_)
 refine zDr [[0,1,2,3,4,5,6,7,8,9,10,11,12,13],[14],[15,16,17,18]] ?_
 (refine zDgo ?_)
 refine po_split 6 rfl (fun h => ?_) (fun h => ?_)
 ·(refine zDgo ?_)
  refine po_split 11 rfl (fun h2 => ?_) (fun h2 => ?_)
  ·(refine zDgo ?_)
   have h' := h
   have h2' := h2
   simp only [decide_eq_true_eq, ge_iff_le] at h' h2'
   (refine po_gval rfl rfl rfl (v_conv hT rfl rfl rfl rfl rfl) ?_; refine zDn ?_)
   (refine zDgo ?_)
   (refine po_on rfl rfl rfl (op_fun (c94 p.bits h' h2') rfl rfl e107 zLe rfl (fun r hr => ?_)); subst hr; refine ⟨rfl, zLok, ?_⟩; refine zDn ?_)
   have h0 := rsize_pos p.bits h' h2'
   (refine po_gval rfl rfl rfl (v_rem rfl rfl rfl (by omega) rfl) ?_; refine zDn ?_)
   (refine zDgo ?_)
   (refine zGo ?_)
   refine ret1 _ rfl ?_ rfl
   simp only [rvalid, h', h2', decide_true, Bool.true_and]
  ·(refine zDgo ?_)
   (refine zGo ?_)
   refine ret1 _ rfl ?_ rfl
   simp [rvalid, h2]
 ·(refine zDgo ?_)
  (refine zGo ?_)
  refine ret1 _ rfl ?_ rfl
  have h' : ¬ (0 ≤ p.bits) := by simpa using h
  simp [rvalid, h']
def rhi (p : TPfx) : Int := IntKind.u32.wrap (IntKind.u64.wrap (IntKind.u64.wrap (IntKind.u64.wrap p.addr + rsize p.bits) - 1))
def rof (p : TPfx) : Int × Int := if rvalid p then (p.addr, rhi p) else (0, 0)
theorem c54 (p : TPfx) : PFun Tryz.prog Gl 52 [ePfx p] fun r => r = .tup [.agg [.int .u32 (rof p).1, .int .u32 (rof p).2], .bool (rvalid p)] := by
 refine PFun.of hT Tryz.func52 rfl fun B hD => ?_
 refine pw_norm rfl ?_
 (refine zGo ?_)
 (refine pl_op rfl (op_fun (c53 p) rfl rfl e106 zLe rfl (fun r hr => ?_)); subst hr; refine ⟨rfl, ?_⟩; (refine zNp ?_))
 (refine zGo ?_)
 refine pw_cond rfl (fun h => ?_) (fun h => ?_)
 ·(refine zGo ?_)
  refine ret1 _ rfl ?_ rfl
  have h' : rvalid p = false := by simpa using h
  simp only [rof, h']
  rfl
 ·have h' : rvalid p = true := by simpa using h
  have hb := rvalid_bits h'
  (refine zGo ?_)
  refine zDr [[0,1,2,3,4,5,6],[7],[8,9,10,11],[12],[13]] ?_
  (refine zDgo ?_)
  (refine po_val rfl rfl (v_conv hT rfl rfl rfl rfl rfl) ?_; refine zDn ?_)
  (refine zDgo ?_)
  (refine po_step rfl rfl (op_fun (c94 p.bits hb.1 hb.2) rfl rfl e107 zLe rfl (fun r hr => ?_)); subst hr; refine ⟨rfl, zLok, ?_⟩; refine zDn ?_)
  (refine po_val rfl rfl (v_arith rfl rfl rfl rfl rfl) ?_; refine zDn ?_)
  (refine po_val rfl rfl (v_arith rfl rfl rfl rfl rfl) ?_; refine zDn ?_)
  (refine po_val rfl rfl (v_conv hT rfl rfl rfl rfl rfl) ?_; refine zDn ?_)
  (refine zDgo ?_)
  (refine zGo ?_)
  refine ret1 _ rfl ?_ rfl
  simp only [rof, h', if_true]
  rfl
def rcont (p : TPfx) (a : Int) : Bool := rvalid p && decide ((rof p).1 ≤ a) && decide (a ≤ (rof p).2)
theorem c23 (p : TPfx) (a : Int) : PFun Tryz.prog Gl 33 [ePfx p, .int .u32 a] fun r => r = .bool (rcont p a) := by
 refine PFun.of hT Tryz.func33 rfl fun B hD => ?_
 refine pw_norm rfl ?_
 (refine zGo ?_)
 (refine pl_op rfl (op_fun (c54 p) rfl rfl e52 zLe rfl (fun r hr => ?_)); subst hr; refine ⟨rfl, ?_⟩; (refine zNp ?_))
 (refine zGo ?_)
 refine pl_split 13 rfl (fun h => ?_) (fun h => ?_)
 ·(refine zGo ?_)
  refine pl_split 19 rfl (fun h2 => ?_) (fun h2 => ?_)
  ·(refine zGo ?_)
   refine ret1 _ rfl ?_ rfl
   simp only [rcont, h, h2, Bool.true_and]
  ·(refine zGo ?_)
   refine ret1 _ rfl ?_ rfl
   simp only [rcont, h, h2, Bool.true_and, Bool.false_and]
 ·(refine zGo ?_)
  refine ret1 _ rfl ?_ rfl
  simp only [rcont, h, Bool.false_and]
def tape (l : List Int) (i : Nat) : PObj := .box [.sl (l.map eInt), .int .i64 i]
def Gen (Gl : Glob) (f : FuncId) (args : List PV) (l : List Int) (i : Nat) (R : PV → Prop) : Prop :=
 PCalls Tryz.prog Gl f (.ptr 0 0 :: args) [tape l i] fun r s => ∃ i' : Nat, R r ∧ i' ≤ l.length ∧ s = [tape l i']
theorem c13n (l : List Int) (hl : Tp l) (i : Nat) (hi : i ≤ l.length) (n : Nat) (hn : 0 < n) (hn2 : n ≤ 1000) : Gen Gl 21 [.int .i64 n] l i fun r => ∃ m : Nat, m < n ∧ r = .int .i64 m := by
 refine (c13 l hl i hi n (by omega)).mono ?_
 rintro r s ⟨m, i', rfl, h1, h2, h3, rfl⟩
 refine ⟨i', ⟨m.toNat, by omega, ?_⟩, h3, rfl⟩
 rw [Int.toNat_of_nonneg h1]
theorem lit_at {α : Type} (e : α → PV) (L : List α) (m : Nat) (d : α) (h : m < L.length) : (L.map e)[((m : Nat) : Int).toNat]? = some (e (L.getD m d)) := by
 rw [Int.toNat_natCast, List.getElem?_map, List.getD, List.getElem?_eq_getElem h]; rfl
theorem getD_mem {α : Type} {L : List α} {m : Nat} {d : α} (h : m < L.length) : L.getD m d ∈ L := by
 rw [List.getD, List.getElem?_eq_getElem h]; exact List.getElem_mem h
def addrs : List Int := [0, 4294967295, 3405803781, 3325256705, 168296448, 2130706433]
theorem u32_range (n : Int) : 0 ≤ IntKind.u32.wrap n ∧ IntKind.u32.wrap n < 4294967296 := by rw [IntKind.wrap_u32]; omega
theorem rof_range {p : TPfx} (h : 0 ≤ p.addr ∧ p.addr < 4294967296) : (0 ≤ (rof p).1 ∧ (rof p).1 < 4294967296) ∧ (0 ≤ (rof p).2 ∧ (rof p).2 < 4294967296) := by
 unfold rof
 split
 ·exact ⟨h, u32_range _⟩
 ·exact ⟨⟨by decide, by decide⟩, ⟨by decide, by decide⟩⟩
theorem c22 (l : List Int) (hl : Tp l) (i : Nat) (hi : i ≤ l.length) : Gen Gl 60 [] l i fun r => ∃ a : Int, (0 ≤ a ∧ a < 4294967296) ∧ r = .int .u32 a := by
 refine PCalls.of hT Tryz.func60 rfl 1 (Nat.le_refl _) fun B hD => ?_
 refine pw_norm rfl ?_
 (refine zGo ?_)
 (refine pl_op rfl (zCl [0] e21 (c13n l hl i hi 5 (by decide) (by decide)) (fun r s hq => ?_)); obtain ⟨i1, ⟨m1, hm1, rfl⟩, hi1, rfl⟩ := hq; refine ⟨rfl, rfl, ?_⟩; (refine zNp ?_))
 (refine zGo ?_)
 refine pw_cond rfl (fun h => ?_) (fun h => ?_)
 ·(refine zGo ?_)
  (refine pl_op rfl (zCl [0] e21 (c13n l hl i1 hi1 6 (by decide) (by decide)) (fun r s hq => ?_)); obtain ⟨i2, ⟨m2, hm2, rfl⟩, hi2, rfl⟩ := hq; refine ⟨rfl, rfl, ?_⟩; (refine zNp ?_))
  (refine pl_op rfl (op_of (v_index (p := .int .u32 (addrs.getD m2 0)) hT rfl rfl rfl rfl (by omega) (lit_at (.int .u32) addrs m2 0 hm2) rfl) ?_); (refine zNp ?_))
  (refine zGo ?_)
  have hr : ∀ a ∈ addrs, 0 ≤ a ∧ a < 4294967296 := by decide
  exact ⟨_, _, _, rfl, ⟨i2, ⟨_, hr _ (getD_mem hm2), rfl⟩, hi2, rfl⟩, .inr (.inl rfl), ⟨.inr (.inl rfl), trivial⟩, rfl, rfl⟩
 ·(refine zGo ?_)
  (refine pl_op rfl (zCl [0] e21 (c13n l hl i1 hi1 6 (by decide) (by decide)) (fun r s hq => ?_)); obtain ⟨i2, ⟨m2, hm2, rfl⟩, hi2, rfl⟩ := hq; refine ⟨rfl, rfl, ?_⟩; (refine zNp ?_))
  (refine pl_op rfl (op_fun (c37 m2) rfl rfl e22 zLe rfl (fun r hr => ?_)); obtain ⟨p, hp, rfl⟩ := hr; refine ⟨rfl, ?_⟩; (refine zNp ?_))
  have hpr : 0 ≤ p.addr ∧ p.addr < 4294967296 := by
   have : ∀ p ∈ subnets, 0 ≤ p.addr ∧ p.addr < 4294967296 := by decide
   exact this p hp
  have hro := rof_range hpr
  (refine zGo ?_)
  (refine pl_op rfl (op_fun (c54 p) rfl rfl e52 zLe rfl (fun r hr => ?_)); subst hr; refine ⟨rfl, ?_⟩; (refine zNp ?_))
  generalize rof p = q at hro ⊢
  (refine zGo ?_)
  refine zDr [[0,1,2,3,4,5,6,7,8,9,10,11,12,13,14],[15],[16,17,18]] ?_
  (refine zDgo ?_)
  (refine po_val rfl rfl (v_arith rfl rfl rfl rfl rfl) ?_; refine zDn ?_)
  (refine zDgo ?_)
  (refine po_val rfl rfl (v_arith rfl rfl rfl rfl rfl) ?_; refine zDn ?_)
  (refine zDgo ?_)
  (refine po_val rfl rfl (v_arith rfl rfl rfl rfl rfl) ?_; refine zDn ?_)
  (refine zDgo ?_)
  (refine po_make rfl rfl (fun st' K hK => op_litF hT rfl rfl rfl rfl rfl (by decide) rfl rfl rfl rfl hK) ?_; refine zDn ?_)
  (refine zDgo ?_)
  (refine po_step rfl rfl (zCl [0] e21 (c13n l hl i2 hi2 5 (by decide) (by decide)) (fun r s hq => ?_)); obtain ⟨i3, ⟨m3, hm3, rfl⟩, hi3, rfl⟩ := hq; refine ⟨rfl, rfl, zLok, ?_⟩; refine zDn ?_)
  (refine zDgo ?_)
  (refine po_val rfl rfl (v_index (p := .int .u32 ([q.1, q.2, IntKind.u32.wrap (q.1 + 5), IntKind.u32.wrap (q.2 + 1), IntKind.u32.wrap (q.1 - 1)].getD m3 0)) hT rfl rfl rfl rfl (by omega) (lit_at (.int .u32) [q.1, q.2, IntKind.u32.wrap (q.1 + 5), IntKind.u32.wrap (q.2 + 1), IntKind.u32.wrap (q.1 - 1)] m3 0 hm3) rfl) ?_; refine zDn ?_)
  (refine zDgo ?_)
  (refine zGo ?_)
  have hr : ∀ a ∈ [q.1, q.2, IntKind.u32.wrap (q.1 + 5), IntKind.u32.wrap (q.2 + 1), IntKind.u32.wrap (q.1 - 1)], 0 ≤ a ∧ a < 4294967296 := by
   intro a ha
   simp only [List.mem_cons, List.mem_nil_iff, or_false] at ha
   rcases ha with rfl | rfl | rfl | rfl | rfl
   ·exact hro.1
   ·exact hro.2
   all_goals exact u32_range _
  exact ⟨_, _, _, rfl, ⟨i3, ⟨_, hr _ (getD_mem hm3), rfl⟩, hi3, rfl⟩, .inr (.inl rfl), ⟨.inr (.inl rfl), trivial⟩, rfl, rfl⟩
structure TRng where
 lo : Int
 hi : Int
 deriving DecidableEq
structure TItem where
 kind : Int
 name : Str
 pfx : TPfx
 proto : Int
 ports : TRng
structure TDef where
 name : Str
 items : List TItem
structure TWin where
 name : Str
 active : List TRng
structure TStm where
 permit : Bool
 src : Str
 dst : Str
 service : Str
 excepted : Bool
 exSrc : Str
 exDst : Str
 cls : Str
 during : Str
 prio : Int
structure TPub where
 addr : Int
 proto : Int
 port : Int
 edge : Str
 real : Int
 realPort : Int
structure THid where
 group : Str
 edge : Str
 addr : Int
 ports : TRng
def eRng (r : TRng) : PV := .agg [.int .u32 r.lo, .int .u32 r.hi]
instance : Inhabited TPfx := ⟨⟨0, 0⟩⟩
instance : Inhabited TRng := ⟨⟨0, 0⟩⟩
instance : Inhabited TItem := ⟨⟨0, [], ⟨0, 0⟩, 0, ⟨0, 0⟩⟩⟩
instance : Inhabited TDef := ⟨⟨[], []⟩⟩
instance : Inhabited TWin := ⟨⟨[], []⟩⟩
instance : Inhabited TStm := ⟨⟨false, [], [], [], false, [], [], [], [], 0⟩⟩
instance : Inhabited TPub := ⟨⟨0, 0, 0, [], 0, 0⟩⟩
instance : Inhabited THid := ⟨⟨[], [], 0, ⟨0, 0⟩⟩⟩
def mem (l : List TRng) (v : Int) : Prop := ∃ r ∈ l, r.lo ≤ v ∧ v ≤ r.hi
theorem mem_cons {r : TRng} {l : List TRng} {v : Int} : mem (r :: l) v ↔ (r.lo ≤ v ∧ v ≤ r.hi) ∨ mem l v := by
 constructor
 ·rintro ⟨x, hx, h⟩
  rcases List.mem_cons.1 hx with rfl | hx
  ·exact .inl h
  ·exact .inr ⟨x, hx, h⟩
 ·rintro (h | ⟨x, hx, h⟩)
  ·exact ⟨r, List.mem_cons_self .., h⟩
  ·exact ⟨x, List.mem_cons_of_mem _ hx, h⟩
theorem mem_append {a b : List TRng} {v : Int} : mem (a ++ b) v ↔ mem a v ∨ mem b v := by
 constructor
 ·rintro ⟨x, hx, h⟩
  rcases List.mem_append.1 hx with hx | hx
  ·exact .inl ⟨x, hx, h⟩
  ·exact .inr ⟨x, hx, h⟩
 ·rintro (⟨x, hx, h⟩ | ⟨x, hx, h⟩)
  ·exact ⟨x, List.mem_append_left _ hx, h⟩
  ·exact ⟨x, List.mem_append_right _ hx, h⟩
inductive Can : List TRng → Prop
 | nil : Can []
 | cons (r : TRng) (l : List TRng) : r.lo ≤ r.hi → (∀ x ∈ l, r.hi + 2 ≤ x.lo) → Can l → Can (r :: l)
theorem Can.append : ∀ {a b : List TRng}, Can a → Can b → (∀ x ∈ a, ∀ y ∈ b, x.hi + 2 ≤ y.lo) → Can (a ++ b)
 | [], _, _, hb, _ => hb
 | r :: l, b, ha, hb, h => by
  cases ha with
  | cons _ _ a1 a2 a3 =>
   refine .cons r (l ++ b) a1 (fun x hx => ?_) (Can.append a3 hb fun x hx => h x (List.mem_cons_of_mem _ hx))
   rcases List.mem_append.1 hx with hx | hx
   ·exact a2 x hx
   ·exact h r (List.mem_cons_self ..) x hx
theorem Can.one {r : TRng} (h : r.lo ≤ r.hi) : Can [r] := .cons r [] h (by simp) .nil
theorem Can.left : ∀ {a b : List TRng}, Can (a ++ b) → Can a
 | [], _, _ => .nil
 | r :: l, b, h => by
  cases h with
  | cons _ _ a1 a2 a3 => exact .cons r l a1 (fun x hx => a2 x (List.mem_append_left _ hx)) (Can.left a3)
theorem mem_filter {l : List TRng} {v : Int} : mem (l.filter fun r => decide (r.lo ≤ r.hi)) v ↔ mem l v := by
 constructor
 ·rintro ⟨r, hr, h⟩
  exact ⟨r, (List.mem_filter.1 hr).1, h⟩
 ·rintro ⟨r, hr, h⟩
  exact ⟨r, List.mem_filter.2 ⟨hr, by simp; omega⟩, h⟩
theorem Can.le : ∀ {l : List TRng}, Can l → ∀ r ∈ l, r.lo ≤ r.hi
 | [], _, r, h => by cases h
 | s :: l, h, r, hr => by
  cases h with
  | cons _ _ a1 a2 a3 =>
   rcases List.mem_cons.1 hr with rfl | hr
   ·exact a1
   ·exact Can.le a3 r hr
def chk (top : Int) (l : List TRng) (i : Nat) : Prop := (l.getD i default).lo ≤ (l.getD i default).hi ∧ (l.getD i default).hi ≤ top ∧ (0 < i → (l.getD (i - 1) default).hi + 2 ≤ (l.getD i default).lo)
instance (top : Int) (l : List TRng) (i : Nat) : Decidable (chk top l i) := by unfold chk; infer_instance
def RIn (r : TRng) : Prop := (0 ≤ r.lo ∧ r.lo < 4294967296) ∧ 0 ≤ r.hi ∧ r.hi < 4294967296
def Asc (l : List Int) : Prop := l.Pairwise (· < ·)
def ins1 : List Int → Int → List Int
 | [], v => [v]
 | x :: l, v => if x < v then x :: ins1 l v else if x = v then x :: l else v :: x :: l
def ins (l : List Int) (v top : Int) : List Int := if v > top then l else ins1 l v
theorem ins1_mem : ∀ (l : List Int) (v x : Int), x ∈ ins1 l v ↔ x ∈ l ∨ x = v
 | [], v, x => by simp [ins1]
 | y :: l, v, x => by
  unfold ins1
  split
  ·simp only [List.mem_cons, ins1_mem l v x, or_assoc]
  ·split
   ·rename_i h; subst h; simp only [List.mem_cons]; constructor
    ·intro h; exact .inl h
    ·rintro (h | h); exact h; exact .inl h
   ·simp only [List.mem_cons]
    constructor
    ·rintro (h | h | h); exact .inr h; exact .inl (.inl h); exact .inl (.inr h)
    ·rintro ((h | h) | h); exact .inr (.inl h); exact .inr (.inr h); exact .inl h
theorem ins1_asc : ∀ {l : List Int} {v : Int}, Asc l → Asc (ins1 l v)
 | [], v, _ => List.pairwise_singleton _ _
 | y :: l, v, h => by
  unfold Asc at h ⊢
  rw [List.pairwise_cons] at h
  unfold ins1
  split
  ·rename_i h1
   refine List.pairwise_cons.2 ⟨fun x hx => ?_, ins1_asc h.2⟩
   rcases (ins1_mem l v x).1 hx with hx | hx
   ·exact h.1 x hx
   ·omega
  ·split
   ·exact List.pairwise_cons.2 h
   ·refine List.pairwise_cons.2 ⟨fun x hx => ?_, List.pairwise_cons.2 h⟩
    rcases List.mem_cons.1 hx with rfl | hx
    ·omega
    ·have := h.1 x hx; omega
theorem ins_mem (l : List Int) (v top x : Int) (_h : ∀ y ∈ l, y ≤ top) : x ∈ ins l v top ↔ x ∈ l ∨ (x = v ∧ v ≤ top) := by
 unfold ins
 split
 ·rename_i h1
  constructor
  ·exact .inl
  ·rintro (h | ⟨rfl, h⟩)
   ·exact h
   ·omega
 ·rename_i h1
  rw [ins1_mem]
  constructor
  ·rintro (h | h)
   ·exact .inl h
   ·exact .inr ⟨h, by omega⟩
  ·rintro (h | h)
   ·exact .inl h
   ·exact .inr h.1
theorem ins_asc {l : List Int} {v top : Int} (h : Asc l) : Asc (ins l v top) := by
 unfold ins; split
 ·exact h
 ·exact ins1_asc h
def stepS (top : Int) (out : List Int) (r : TRng) : List Int := if r.lo ≤ r.hi then ins (ins out r.lo top) (r.hi + 1) top else out
structure StOk (s : List Int) (top : Int) (l : List TRng) : Prop where
 asc : Asc s
 rng : ∀ x ∈ s, 0 ≤ x ∧ x ≤ top
 zero : (0 : Int) ∈ s
 lo : ∀ r ∈ l, r.lo ≤ r.hi → r.lo ≤ top → r.lo ∈ s
 hi : ∀ r ∈ l, r.lo ≤ r.hi → r.hi + 1 ≤ top → r.hi + 1 ∈ s
theorem StOk.step {s : List Int} {top : Int} {l : List TRng} (h : StOk s top l) {r : TRng} (hr : RIn r) : StOk (stepS top s r) top (l ++ [r]) := by
 unfold stepS
 unfold RIn at hr
 have h1 : ∀ y ∈ s, y ≤ top := fun y hy => (h.rng y hy).2
 split
 ·rename_i hle
  have m1 := fun x => ins_mem s r.lo top x h1
  have h2 : ∀ y ∈ ins s r.lo top, y ≤ top := fun y hy => by
   rcases (m1 y).1 hy with hy | hy
   ·exact h1 y hy
   ·omega
  have m2 := fun x => ins_mem (ins s r.lo top) (r.hi + 1) top x h2
  refine ⟨ins_asc (ins_asc h.asc), fun x hx => ?_, (m2 0).2 (.inl ((m1 0).2 (.inl h.zero))), fun q hq h3 h4 => ?_, fun q hq h3 h4 => ?_⟩
  ·rcases (m2 x).1 hx with hx | hx
   ·rcases (m1 x).1 hx with hx | hx
    ·exact h.rng x hx
    ·omega
   ·omega
  ·rcases List.mem_append.1 hq with hq | hq
   ·exact (m2 _).2 (.inl ((m1 _).2 (.inl (h.lo q hq h3 h4))))
   ·rw [List.mem_singleton] at hq; subst hq
    exact (m2 _).2 (.inl ((m1 _).2 (.inr ⟨rfl, h4⟩)))
  ·rcases List.mem_append.1 hq with hq | hq
   ·exact (m2 _).2 (.inl ((m1 _).2 (.inl (h.hi q hq h3 h4))))
   ·rw [List.mem_singleton] at hq; subst hq
    exact (m2 _).2 (.inr ⟨rfl, h4⟩)
 ·rename_i hle
  refine ⟨h.asc, h.rng, h.zero, fun q hq h3 h4 => ?_, fun q hq h3 h4 => ?_⟩
  ·rcases List.mem_append.1 hq with hq | hq
   ·exact h.lo q hq h3 h4
   ·rw [List.mem_singleton] at hq; subst hq; omega
  ·rcases List.mem_append.1 hq with hq | hq
   ·exact h.hi q hq h3 h4
   ·rw [List.mem_singleton] at hq; subst hq; omega
structure TBox where
 r0 : TRng
 r1 : TRng
 r2 : TRng
 r3 : TRng
 r4 : TRng
 deriving DecidableEq
def TBox.get (b : TBox) : Nat → TRng
 | 0 => b.r0
 | 1 => b.r1
 | 2 => b.r2
 | 3 => b.r3
 | _ => b.r4
def TBox.put (b : TBox) (r : TRng) : Nat → TBox
 | 0 => { b with r0 := r }
 | 1 => { b with r1 := r }
 | 2 => { b with r2 := r }
 | 3 => { b with r3 := r }
 | _ => { b with r4 := r }
theorem TBox.get_put (b : TBox) (r : TRng) (f : Nat) : (b.put r f).get f = r := by
 match f with
 | 0 | 1 | 2 | 3 => rfl
 | _ + 4 => rfl
def topF : Nat → Int
 | 0 | 1 => 4294967295
 | 2 => 255
 | _ => 65535
structure TRule where
 m : TBox
 p : Bool
structure TMove where
 src : TBox
 dst : TBox
structure THide where
 m : TBox
 addr : Int
 ports : TRng
structure TSteer where
 m : TBox
 c : Str
structure TPort where
 edge : Int
 ing : List TRule
 egr : List TRule
 moves : List TMove
 hides : List THide
 steers : List TSteer
structure TCfg where
 ports : List TPort
structure TRoute where
 pfx : TPfx
 edge : Bool
 port : Int
structure THdr where
 src : Int
 dst : Int
 proto : Int
 sp : Int
 dp : Int
structure TPiece where
 c : Str
 s : List TBox
def eBox (b : TBox) : PV := .agg [.int .u32 b.r0.lo, .int .u32 b.r0.hi, .int .u32 b.r1.lo, .int .u32 b.r1.hi, .int .u32 b.r2.lo, .int .u32 b.r2.hi, .int .u32 b.r3.lo, .int .u32 b.r3.hi, .int .u32 b.r4.lo, .int .u32 b.r4.hi]
def eRule (r : TRule) : PV := .agg [.int .u32 r.m.r0.lo, .int .u32 r.m.r0.hi, .int .u32 r.m.r1.lo, .int .u32 r.m.r1.hi, .int .u32 r.m.r2.lo, .int .u32 r.m.r2.hi, .int .u32 r.m.r3.lo, .int .u32 r.m.r3.hi, .int .u32 r.m.r4.lo, .int .u32 r.m.r4.hi, .bool r.p]
def eMove (x : TMove) : PV := .agg [.int .u32 x.src.r0.lo, .int .u32 x.src.r0.hi, .int .u32 x.src.r1.lo, .int .u32 x.src.r1.hi, .int .u32 x.src.r2.lo, .int .u32 x.src.r2.hi, .int .u32 x.src.r3.lo, .int .u32 x.src.r3.hi, .int .u32 x.src.r4.lo, .int .u32 x.src.r4.hi,
 .int .u32 x.dst.r0.lo, .int .u32 x.dst.r0.hi, .int .u32 x.dst.r1.lo, .int .u32 x.dst.r1.hi, .int .u32 x.dst.r2.lo, .int .u32 x.dst.r2.hi, .int .u32 x.dst.r3.lo, .int .u32 x.dst.r3.hi, .int .u32 x.dst.r4.lo, .int .u32 x.dst.r4.hi]
def eHide (x : THide) : PV := .agg [.int .u32 x.m.r0.lo, .int .u32 x.m.r0.hi, .int .u32 x.m.r1.lo, .int .u32 x.m.r1.hi, .int .u32 x.m.r2.lo, .int .u32 x.m.r2.hi, .int .u32 x.m.r3.lo, .int .u32 x.m.r3.hi, .int .u32 x.m.r4.lo, .int .u32 x.m.r4.hi, .int .u32 x.addr, .int .u32 x.ports.lo, .int .u32 x.ports.hi]
def eSteer (x : TSteer) : PV := .agg [.int .u32 x.m.r0.lo, .int .u32 x.m.r0.hi, .int .u32 x.m.r1.lo, .int .u32 x.m.r1.hi, .int .u32 x.m.r2.lo, .int .u32 x.m.r2.hi, .int .u32 x.m.r3.lo, .int .u32 x.m.r3.hi, .int .u32 x.m.r4.lo, .int .u32 x.m.r4.hi, .str x.c]
def ePort (p : TPort) : PV := .agg [.int .i64 p.edge, .sl (p.ing.map eRule), .sl (p.egr.map eRule), .sl (p.moves.map eMove), .sl (p.hides.map eHide), .sl (p.steers.map eSteer)]
def eCfg (c : TCfg) : PV := .agg [.sl (c.ports.map ePort)]
def eHdr (h : THdr) : PV := .agg [.int .u32 h.src, .int .u32 h.dst, .int .u8 h.proto, .int .u16 h.sp, .int .u16 h.dp]
def box0 : TBox := ⟨⟨0, 0⟩, ⟨0, 0⟩, ⟨0, 0⟩, ⟨0, 0⟩, ⟨0, 0⟩⟩
def fullB : TBox := ⟨⟨0, 4294967295⟩, ⟨0, 4294967295⟩, ⟨0, 255⟩, ⟨0, 65535⟩, ⟨0, 65535⟩⟩
instance : Inhabited TBox := ⟨box0⟩
instance : Inhabited TRule := ⟨⟨box0, false⟩⟩
instance : Inhabited TMove := ⟨⟨box0, box0⟩⟩
instance : Inhabited THide := ⟨⟨box0, 0, ⟨0, 0⟩⟩⟩
instance : Inhabited TSteer := ⟨⟨box0, []⟩⟩
instance : Inhabited TPort := ⟨⟨0, [], [], [], [], []⟩⟩
instance : Inhabited TCfg := ⟨⟨[]⟩⟩
instance : Inhabited TRoute := ⟨⟨⟨0, 0⟩, false, 0⟩⟩
instance : Inhabited TPiece := ⟨⟨[], []⟩⟩
def port0 : TPort := ⟨0, [], [], [], [], []⟩
def BoxIn (b : TBox) : Prop := RIn b.r0 ∧ RIn b.r1 ∧ RIn b.r2 ∧ RIn b.r3 ∧ RIn b.r4
theorem BoxIn.get {b : TBox} (h : BoxIn b) : ∀ f, RIn (b.get f)
 | 0 => h.1
 | 1 => h.2.1
 | 2 => h.2.2.1
 | 3 => h.2.2.2.1
 | _ + 4 => h.2.2.2.2
structure HdrIn (h : THdr) : Prop where
 src : 0 ≤ h.src ∧ h.src < 4294967296
 dst : 0 ≤ h.dst ∧ h.dst < 4294967296
 proto : 0 ≤ h.proto ∧ h.proto < 256
 sp : 0 ≤ h.sp ∧ h.sp < 65536
 dp : 0 ≤ h.dp ∧ h.dp < 65536
def THdr.pt (h : THdr) : Nat → Int
 | 0 => h.src
 | 1 => h.dst
 | 2 => h.proto
 | 3 => h.sp
 | _ => h.dp
def bokB (b : TBox) : Bool := (List.range 5).all fun f => decide ((b.get f).lo ≤ (b.get f).hi) && decide ((b.get f).hi ≤ topF f)
def hinB (b : TBox) (h : THdr) : Bool := (List.range 5).all fun f => decide ((b.get f).lo ≤ h.pt f) && decide (h.pt f ≤ (b.get f).hi)
def bhas (b : TBox) (h : THdr) : Bool := bokB b && hinB b h
theorem bokB_iff (b : TBox) : bokB b = true ↔ ∀ f, f < 5 → (b.get f).lo ≤ (b.get f).hi ∧ (b.get f).hi ≤ topF f := by
 unfold bokB
 rw [List.all_eq_true]
 constructor
 ·intro h f hf
  have := h f (List.mem_range.2 hf)
  simpa using this
 ·intro h f hf
  have := h f (List.mem_range.1 hf)
  simpa using this
theorem hinB_iff (b : TBox) (h : THdr) : hinB b h = true ↔ ∀ f, f < 5 → (b.get f).lo ≤ h.pt f ∧ h.pt f ≤ (b.get f).hi := by
 unfold hinB
 rw [List.all_eq_true]
 constructor
 ·intro q f hf
  have := q f (List.mem_range.2 hf)
  simpa using this
 ·intro q f hf
  have := q f (List.mem_range.1 hf)
  simpa using this
def decT (t : List TRule) (h : THdr) : Bool := match t.find? fun r => bhas r.m h with
 | some r => r.p
 | none => false
def clsP (p : TPort) (h : THdr) : Str := match p.steers.find? fun s => bhas s.m h with
 | some s => s.c
 | none => []
def tabOk (t : List TRule) : Bool := t.all (fun r => bokB r.m) && decide (t.length ≤ 4096)
def initH (h : THdr) : Bool :=
 if h.proto = 6 ∨ h.proto = 17 then true else if h.proto = 1 then decide (h.dp = 8) && decide (h.sp ≠ 8) else decide (h.sp = 0) && decide (h.dp = 0)

end
end Go.Proofs.YtokclomhkggikaaGreatDoor