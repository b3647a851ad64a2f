/-
  Contracts of functions, walked over pure values.
-/
import Derived.Test.YtdehdgbdcfkpbaaGreatDoorKA3
import Derived.Test.YtdehdgbdcfkpbaaGreatDoorKC1
import Derived.Test.YtdehdgbdcfkpbaaGreatDoorJPwLoop
namespace Go.Proofs.YtdehdgbdcfkpbaaGreatDoor
open Go Go.Pw
variable {Gl : Glob}
attribute [local irreducible] PW PWL OpP PCalls PWO

def tDevice (t : Topo) (name : Str) : Int := firstAt (fun d => d.name == name) t.devs
def tEdge (t : Topo) (name : Str) : Int := firstAt (fun d => d.name == name) t.edges
theorem c41 (t : Topo) (name : Str) (hl : Small t.devs) : PFun Tryz.prog Gl 41 [eTopo t, .str name] fun r => r = .int .i64 (tDevice t name) := by
  refine PFun.of hT Tryz.func41 rfl fun B hD => ?_
  refine pw_norm rfl ?_
  (refine zGo ?_)
  (refine pl_op rfl (op_call [1] rfl rfl e86 (by decide) rfl rfl rfl zLe zLes (c86 e87 (by rfl) hl fun x _ => c87 name x) (fun r s hq => ?_)); obtain ⟨rfl, rfl⟩ := hq; refine ⟨rfl, rfl, ?_⟩; (refine zNp ?_))
  (refine zGo ?_)
  refine ret1 _ rfl rfl rfl
theorem c43 (t : Topo) (name : Str) (hl : Small t.edges) : PFun Tryz.prog Gl 43 [eTopo t, .str name] fun r => r = .int .i64 (tEdge t name) := by
  refine PFun.of hT Tryz.func43 rfl fun B hD => ?_
  refine pw_norm rfl ?_
  (refine zGo ?_)
  (refine pl_op rfl (op_call [1] rfl rfl e55 (by decide) rfl rfl rfl zLe zLes (c55 e88 (by rfl) hl fun x _ => c88 name x) (fun r s hq => ?_)); obtain ⟨rfl, rfl⟩ := hq; refine ⟨rfl, rfl, ?_⟩; (refine zNp ?_))
  (refine zGo ?_)
  refine ret1 _ rfl rfl rfl
def tAt (t : Topo) (a : Int) : Int := firstAt (fun d => !d.planned && pcont d.pfx a) t.edges
theorem c24 (t : Topo) (a : Int) (hl : Small t.edges) : PFun Tryz.prog Gl 24 [eTopo t, .int .u32 a] fun r => r = .int .i64 (tAt t a) := by
  refine PFun.of hT Tryz.func24 rfl fun B hD => ?_
  refine pw_norm rfl ?_
  (refine zGo ?_)
  (refine pl_op rfl (op_call [1] rfl rfl e55 (by decide) rfl rfl rfl zLe zLes (c55 e56 (by rfl) hl fun x _ => c56 a x) (fun r s hq => ?_)); obtain ⟨rfl, rfl⟩ := hq; refine ⟨rfl, rfl, ?_⟩; (refine zNp ?_))
  (refine zGo ?_)
  refine ret1 _ rfl rfl rfl
/-- topology.indexes, at a function value that looks at a box of one cell. -/
theorem c108i {f : FuncId} (hf : Enters Tryz.prog f) {n : Int} (t : Topo) (hl : Small t.edges) {p : TEdge → Bool} (hp : ∀ x, PCalls Tryz.prog Gl f [eEdge x, .ptr 0 0] [.box [.int .i64 n]] fun r s => r = .bool (p x) ∧ s = [.box [.int .i64 n]]) :
    PCalls Tryz.prog Gl 108 [eTopo t, .fn f [.ptr 0 0]] [.box [.int .i64 n]] fun r s => r = .sl ((idxs p t.edges).map eInt) ∧ s = [.box [.int .i64 n]] := by
  refine PCalls.of hT Tryz.func108 rfl 1 (Nat.le_refl _) fun B hD => ?_
  refine pw_norm rfl ?_
  (refine zGo ?_)
  refine pw_ghost 1 ?_
  refine pw_norm rfl ?_
  refine pw_for hD (fun a : Nat × Nat => [(5, .msl 1 2 0 ((selTo p t.edges a.1).map eInt).length a.2), (11, .int .i64 a.1)]) (fun a => [.box [.int .i64 n], .box (eTopo t).cells, .arr 1 ((selTo p t.edges a.1).map eInt) a.2]) (fun a => a.1 ≤ t.edges.length) (fun a => t.edges.length - a.1) (0, 0) (by simp) 3 rfl (fun _ => rfl) (StLe.refl _) (fun _ => rfl)
    (fun _ => rfl) (by (exact zLe)) ?_
  rintro ⟨i, cap⟩ hi
  unfold Small at hl
  (refine zGo ?_)
  refine pw_cond rfl (fun h => ?_) (fun h => ?_)
  · simp only [decide_eq_true_eq, List.length_map] at h
    have hlt : i < t.edges.length := by omega
    (refine zGo ?_)
    (refine pl_op rfl (op_of (v_index (p := eEdge t.edges[i]) hT rfl rfl rfl rfl (by omega) (by simp [hlt]) rfl) ?_); (refine zNp ?_))
    (refine zGo ?_)
    refine pl_op rfl (op_pred (v := eEdge t.edges[i]) rfl (hp t.edges[i]) rfl rfl rfl rfl hf rfl ?_)
    refine pl_norm rfl ?_
    (refine zGo ?_)
    refine pw_cond rfl (fun h2 => ?_) (fun h2 => ?_)
    · (refine zGo ?_)
      have hn := selTo_len p t.edges i
      (refine pl_append (b := 8) hT hD rfl rfl rfl rfl rfl rfl rfl rfl (.inl (Nat.zero_lt_succ _)) rfl rfl (by simp; omega) (fun cap' _ hcap => ?_); (refine zNp ?_))
      (refine zGo ?_)
      have hs := selTo_yes (p := p) (l := t.edges) (List.getElem?_eq_getElem hlt) h2
      refine ⟨(i + 1, cap'), by show i + 1 ≤ _; omega, by show _ - (i + 1) < _ - i; omega, ?_, ?_⟩
      · simp only [hs, List.map_append, List.length_append]
        (exact zLe)
      · simp only [hs, List.map_append]
        (exact zLes)
    · (refine zGo ?_)
      have hs := selTo_no (p := p) (l := t.edges) (List.getElem?_eq_getElem hlt) h2
      refine ⟨(i + 1, cap), by show i + 1 ≤ _; omega, by show _ - (i + 1) < _ - i; omega, ?_, ?_⟩
      · simp only [hs]
        (exact zLe)
      · simp only [hs]
        (exact zLes)
  · simp only [decide_eq_false_iff_not, List.length_map] at h
    have hge : i = t.edges.length := by omega
    subst hge
    (refine zGo ?_)
    exact ⟨_, _, _, rfl, ⟨rfl, rfl⟩, .inr (.inr (.inr (.inl ⟨_, _, _, _, _, _, rfl, rfl, rfl, rfl, rfl⟩))), ⟨.inr (.inl rfl), trivial⟩, rfl, rfl⟩
/-- topology.indexes, at a function value that looks at a box of one cell. -/
theorem c108s {f : FuncId} (hf : Enters Tryz.prog f) {n : Str} (t : Topo) (hl : Small t.edges) {p : TEdge → Bool} (hp : ∀ x, PCalls Tryz.prog Gl f [eEdge x, .ptr 0 0] [.box [.str n]] fun r s => r = .bool (p x) ∧ s = [.box [.str n]]) :
    PCalls Tryz.prog Gl 108 [eTopo t, .fn f [.ptr 0 0]] [.box [.str n]] fun r s => r = .sl ((idxs p t.edges).map eInt) ∧ s = [.box [.str n]] := by
  refine PCalls.of hT Tryz.func108 rfl 1 (Nat.le_refl _) fun B hD => ?_
  refine pw_norm rfl ?_
  (refine zGo ?_)
  refine pw_ghost 1 ?_
  refine pw_norm rfl ?_
  refine pw_for hD (fun a : Nat × Nat => [(5, .msl 1 2 0 ((selTo p t.edges a.1).map eInt).length a.2), (11, .int .i64 a.1)]) (fun a => [.box [.str n], .box (eTopo t).cells, .arr 1 ((selTo p t.edges a.1).map eInt) a.2]) (fun a => a.1 ≤ t.edges.length) (fun a => t.edges.length - a.1) (0, 0) (by simp) 3 rfl (fun _ => rfl) (StLe.refl _) (fun _ => rfl)
    (fun _ => rfl) (by (exact zLe)) ?_
  rintro ⟨i, cap⟩ hi
  unfold Small at hl
  (refine zGo ?_)
  refine pw_cond rfl (fun h => ?_) (fun h => ?_)
  · simp only [decide_eq_true_eq, List.length_map] at h
    have hlt : i < t.edges.length := by omega
    (refine zGo ?_)
    (refine pl_op rfl (op_of (v_index (p := eEdge t.edges[i]) hT rfl rfl rfl rfl (by omega) (by simp [hlt]) rfl) ?_); (refine zNp ?_))
    (refine zGo ?_)
    refine pl_op rfl (op_pred (v := eEdge t.edges[i]) rfl (hp t.edges[i]) rfl rfl rfl rfl hf rfl ?_)
    refine pl_norm rfl ?_
    (refine zGo ?_)
    refine pw_cond rfl (fun h2 => ?_) (fun h2 => ?_)
    · (refine zGo ?_)
      have hn := selTo_len p t.edges i
      (refine pl_append (b := 8) hT hD rfl rfl rfl rfl rfl rfl rfl rfl (.inl (Nat.zero_lt_succ _)) rfl rfl (by simp; omega) (fun cap' _ hcap => ?_); (refine zNp ?_))
      (refine zGo ?_)
      have hs := selTo_yes (p := p) (l := t.edges) (List.getElem?_eq_getElem hlt) h2
      refine ⟨(i + 1, cap'), by show i + 1 ≤ _; omega, by show _ - (i + 1) < _ - i; omega, ?_, ?_⟩
      · simp only [hs, List.map_append, List.length_append]
        (exact zLe)
      · simp only [hs, List.map_append]
        (exact zLes)
    · (refine zGo ?_)
      have hs := selTo_no (p := p) (l := t.edges) (List.getElem?_eq_getElem hlt) h2
      refine ⟨(i + 1, cap), by show i + 1 ≤ _; omega, by show _ - (i + 1) < _ - i; omega, ?_, ?_⟩
      · simp only [hs]
        (exact zLe)
      · simp only [hs]
        (exact zLes)
  · simp only [decide_eq_false_iff_not, List.length_map] at h
    have hge : i = t.edges.length := by omega
    subst hge
    (refine zGo ?_)
    exact ⟨_, _, _, rfl, ⟨rfl, rfl⟩, .inr (.inr (.inr (.inl ⟨_, _, _, _, _, _, rfl, rfl, rfl, rfl, rfl⟩))), ⟨.inr (.inl rfl), trivial⟩, rfl, rfl⟩
def tEdges (t : Topo) (n : Int) : List Int := idxs (fun e => e.dev == n) t.edges
def tZone (t : Topo) (s : Str) : List Int := idxs (fun e => e.zone == s) t.edges
theorem c69 (t : Topo) (n : Int) (hl : Small t.edges) : PFun Tryz.prog Gl 69 [eTopo t, .int .i64 n] fun r => r = .sl ((tEdges t n).map eInt) := by
  refine PFun.of hT Tryz.func69 rfl fun B hD => ?_
  refine pw_norm rfl ?_
  (refine zGo ?_)
  (refine pl_op rfl (op_call [1] rfl rfl e108 (by decide) rfl rfl rfl zLe zLes (c108i e109 t hl (c109 n)) (fun r s hq => ?_)); obtain ⟨rfl, rfl⟩ := hq; refine ⟨rfl, rfl, ?_⟩; (refine zNp ?_))
  (refine zGo ?_)
  refine ret1 _ rfl rfl rfl
theorem c71 (t : Topo) (n : Str) (hl : Small t.edges) : PFun Tryz.prog Gl 71 [eTopo t, .str n] fun r => r = .sl ((tZone t n).map eInt) := by
  refine PFun.of hT Tryz.func71 rfl fun B hD => ?_
  refine pw_norm rfl ?_
  (refine zGo ?_)
  (refine pl_op rfl (op_call [1] rfl rfl e108 (by decide) rfl rfl rfl zLe zLes (c108s e110 t hl (c110 n)) (fun r s hq => ?_)); obtain ⟨rfl, rfl⟩ := hq; refine ⟨rfl, rfl, ?_⟩; (refine zNp ?_))
  (refine zGo ?_)
  refine ret1 _ rfl rfl rfl
end Go.Proofs.YtdehdgbdcfkpbaaGreatDoor
namespace Go.Proofs.YtdehdgbdcfkpbaaGreatDoor
open Go Go.Pw
variable {Gl : Glob}
attribute [local irreducible] PW PWL OpP PCalls PWO

/-! ### the reference's prefixes -/
def rsize (n : Int) : Int := IntKind.u64.wrap (1 * 2 ^ (min (32 - n).toNat 64))
theorem c94 (n : Int) (h0 : 0 ≤ n) (h1 : n ≤ 32) : PFun Tryz.prog Gl 94 [.int .i64 n] fun r => r = .int .u64 (rsize n) := by
  refine PFun.of hT Tryz.func94 rfl fun B hD => ?_
  refine pw_norm rfl ?_
  (refine zGo ?_)
  (refine pl_op rfl (op_of (v_conv (c := 32 - n) hT rfl rfl rfl rfl (IntWalk.u64_in _ (by omega))) ?_); (refine zNp ?_))
  (refine pl_op rfl (op_of (v_shl rfl rfl rfl (by omega) rfl) ?_); (refine zNp ?_))
  (refine zGo ?_)
  refine ret1 _ rfl rfl rfl
theorem pow2 (k : Nat) : (2 : Int) ^ k = ((2 ^ k : Nat) : Int) := by simp
theorem rsize_eq (n : Int) (h0 : 0 ≤ n) (h1 : n ≤ 32) : rsize n = ((2 ^ (32 - n).toNat : Nat) : Int) := by
  unfold rsize
  rw [Nat.min_eq_left (by omega), Int.one_mul, pow2]
  have h : (32 - n).toNat ≤ 32 := by omega
  have h2 : (2 : Nat) ^ (32 - n).toNat ≤ 2 ^ 32 := Nat.pow_le_pow_right (by omega) h
  generalize (2 : Nat) ^ (32 - n).toNat = m at *
  exact IntWalk.u64_in _ (by omega)
theorem rsize_pos (n : Int) (h0 : 0 ≤ n) (h1 : n ≤ 32) : 0 < rsize n ∧ rsize n ≤ 4294967296 := by
  rw [rsize_eq n h0 h1]
  have h : (32 - n).toNat ≤ 32 := by omega
  have h2 : (2 : Nat) ^ (32 - n).toNat ≤ 2 ^ 32 := Nat.pow_le_pow_right (by omega) h
  have h3 : 0 < (2 : Nat) ^ (32 - n).toNat := Nat.pow_pos (by omega)
  omega
def rvalid (p : TPfx) : Bool := decide (0 ≤ p.bits) && decide (p.bits ≤ 32) && ((IntKind.u64.wrap p.addr).tmod (rsize p.bits) == 0)
theorem rvalid_bits {p : TPfx} (h : rvalid p = true) : 0 ≤ p.bits ∧ p.bits ≤ 32 := by
  simp only [rvalid, Bool.and_eq_true, decide_eq_true_eq] at h
  exact h.1
theorem c53 (p : TPfx) : PFun Tryz.prog Gl 53 [ePfx p] fun r => r = .bool (rvalid p) := by
  refine PFun.of hT Tryz.func53 rfl fun B hD => ?_
  refine pw_norm rfl ?_
  (refine zGo ?_)
  refine pw_draw [(0, true), (1, true), (2, true), (3, true), (4, true), (5, true), (6, true), (7, true), (8, true), (9, true), (10, true), (11, true), (12, true), (13, true), (14, false), (15, true), (16, true), (17, true), (18, true)] hmix (by decide +kernel) ?_
  (refine zDgo ?_)
  refine po_split 6 rfl (fun h => ?_) (fun h => ?_)
  · (refine zDgo ?_)
    refine po_split 11 rfl (fun h2 => ?_) (fun h2 => ?_)
    · (refine zDgo ?_)
      have h' := h
      have h2' := h2
      simp only [decide_eq_true_eq, ge_iff_le] at h' h2'
      (refine po_gval rfl rfl rfl (v_conv hT rfl rfl rfl rfl rfl) ?_; refine zDn ?_)
      (refine zDgo ?_)
      (refine po_on rfl rfl rfl (op_fun (c94 p.bits h' h2') rfl rfl e94 zLe rfl (fun r hr => ?_)); subst hr; refine ⟨rfl, zLok, ?_⟩; refine zDn ?_)
      have h0 := rsize_pos p.bits h' h2'
      (refine po_gval rfl rfl rfl (v_rem rfl rfl rfl (by omega) rfl) ?_; refine zDn ?_)
      (refine zDgo ?_)
      (refine zGo ?_)
      refine ret1 _ rfl ?_ rfl
      simp only [rvalid, h', h2', decide_true, Bool.true_and]
    · (refine zDgo ?_)
      (refine zGo ?_)
      refine ret1 _ rfl ?_ rfl
      simp [rvalid, h2]
  · (refine zDgo ?_)
    (refine zGo ?_)
    refine ret1 _ rfl ?_ rfl
    have h' : ¬ (0 ≤ p.bits) := by simpa using h
    simp [rvalid, h']
def rhi (p : TPfx) : Int := IntKind.u32.wrap (IntKind.u64.wrap (IntKind.u64.wrap (IntKind.u64.wrap p.addr + rsize p.bits) - 1))
def rof (p : TPfx) : Int × Int := if rvalid p then (p.addr, rhi p) else (0, 0)
theorem c54 (p : TPfx) : PFun Tryz.prog Gl 54 [ePfx p] fun r => r = .tup [.agg [.int .u32 (rof p).1, .int .u32 (rof p).2], .bool (rvalid p)] := by
  refine PFun.of hT Tryz.func54 rfl fun B hD => ?_
  refine pw_norm rfl ?_
  (refine zGo ?_)
  (refine pl_op rfl (op_fun (c53 p) rfl rfl e53 zLe rfl (fun r hr => ?_)); subst hr; refine ⟨rfl, ?_⟩; (refine zNp ?_))
  (refine zGo ?_)
  refine pw_cond rfl (fun h => ?_) (fun h => ?_)
  · (refine zGo ?_)
    refine ret1 _ rfl ?_ rfl
    have h' : rvalid p = false := by simpa using h
    simp only [rof, h']
    rfl
  · have h' : rvalid p = true := by simpa using h
    have hb := rvalid_bits h'
    (refine zGo ?_)
    refine pw_draw [(0, true), (1, true), (2, true), (3, true), (4, true), (5, true), (6, true), (7, false), (8, true), (9, true), (10, true), (11, true), (12, false), (13, true)] hmix (by decide +kernel) ?_
    (refine zDgo ?_)
    (refine po_val rfl rfl (v_conv hT rfl rfl rfl rfl rfl) ?_; refine zDn ?_)
    (refine zDgo ?_)
    (refine po_step rfl rfl (op_fun (c94 p.bits hb.1 hb.2) rfl rfl e94 zLe rfl (fun r hr => ?_)); subst hr; refine ⟨rfl, zLok, ?_⟩; refine zDn ?_)
    (refine po_val rfl rfl (v_arith rfl rfl rfl rfl rfl) ?_; refine zDn ?_)
    (refine po_val rfl rfl (v_arith rfl rfl rfl rfl rfl) ?_; refine zDn ?_)
    (refine po_val rfl rfl (v_conv hT rfl rfl rfl rfl rfl) ?_; refine zDn ?_)
    (refine zDgo ?_)
    (refine zGo ?_)
    refine ret1 _ rfl ?_ rfl
    simp only [rof, h', if_true]
    rfl
def rcont (p : TPfx) (a : Int) : Bool := rvalid p && decide ((rof p).1 ≤ a) && decide (a ≤ (rof p).2)
theorem c23 (p : TPfx) (a : Int) : PFun Tryz.prog Gl 23 [ePfx p, .int .u32 a] fun r => r = .bool (rcont p a) := by
  refine PFun.of hT Tryz.func23 rfl fun B hD => ?_
  refine pw_norm rfl ?_
  (refine zGo ?_)
  (refine pl_op rfl (op_fun (c54 p) rfl rfl e54 zLe rfl (fun r hr => ?_)); subst hr; refine ⟨rfl, ?_⟩; (refine zNp ?_))
  (refine zGo ?_)
  refine pl_split 13 rfl (fun h => ?_) (fun h => ?_)
  · (refine zGo ?_)
    refine pl_split 19 rfl (fun h2 => ?_) (fun h2 => ?_)
    · (refine zGo ?_)
      refine ret1 _ rfl ?_ rfl
      simp only [rcont, h, h2, Bool.true_and]
    · (refine zGo ?_)
      refine ret1 _ rfl ?_ rfl
      simp only [rcont, h, h2, Bool.true_and, Bool.false_and]
  · (refine zGo ?_)
    refine ret1 _ rfl ?_ rfl
    simp only [rcont, h, Bool.false_and]
end Go.Proofs.YtdehdgbdcfkpbaaGreatDoor
namespace Go.Proofs.YtdehdgbdcfkpbaaGreatDoor
open Go Go.Pw
variable {Gl : Glob}
attribute [local irreducible] PW PWL OpP PCalls PWO
set_option maxHeartbeats 20000000
set_option maxRecDepth 100000

/-! ### the small generators -/
def tape (l : List Int) (i : Nat) : PObj := .box [.sl (l.map eInt), .int .i64 i]
/-- A function over a tape alone: its result satisfies R, and the tape has moved on. -/
def Gen (Gl : Glob) (f : FuncId) (args : List PV) (l : List Int) (i : Nat) (R : PV → Prop) : Prop :=
  PCalls Tryz.prog Gl f (.ptr 0 0 :: args) [tape l i] fun r s => ∃ i' : Nat, R r ∧ i' ≤ l.length ∧ s = [tape l i']
theorem c13n (l : List Int) (hl : Tp l) (i : Nat) (hi : i ≤ l.length) (n : Nat) (hn : 0 < n) (hn2 : n ≤ 1000) : Gen Gl 13 [.int .i64 n] l i fun r => ∃ m : Nat, m < n ∧ r = .int .i64 m := by
  refine (c13 l hl i hi n (by omega)).mono ?_
  rintro r s ⟨m, i', rfl, h1, h2, h3, rfl⟩
  refine ⟨i', ⟨m.toNat, by omega, ?_⟩, h3, rfl⟩
  rw [Int.toNat_of_nonneg h1]
theorem lit_at {α : Type} (e : α → PV) (L : List α) (m : Nat) (d : α) (h : m < L.length) : (L.map e)[((m : Nat) : Int).toNat]? = some (e (L.getD m d)) := by
  rw [Int.toNat_natCast, List.getElem?_map, List.getD, List.getElem?_eq_getElem h]; rfl
theorem getD_mem {α : Type} {L : List α} {m : Nat} {d : α} (h : m < L.length) : L.getD m d ∈ L := by
  rw [List.getD, List.getElem?_eq_getElem h]; exact List.getElem_mem h
def addrs : List Int := [0, 4294967295, 3405803781, 3325256705, 168296448, 2130706433]
theorem u32_range (n : Int) : 0 ≤ IntKind.u32.wrap n ∧ IntKind.u32.wrap n < 4294967296 := by rw [IntKind.wrap_u32]; omega
theorem rof_range {p : TPfx} (h : 0 ≤ p.addr ∧ p.addr < 4294967296) : (0 ≤ (rof p).1 ∧ (rof p).1 < 4294967296) ∧ (0 ≤ (rof p).2 ∧ (rof p).2 < 4294967296) := by
  unfold rof
  split
  · exact ⟨h, u32_range _⟩
  · exact ⟨⟨by decide, by decide⟩, ⟨by decide, by decide⟩⟩
theorem c22 (l : List Int) (hl : Tp l) (i : Nat) (hi : i ≤ l.length) : Gen Gl 22 [] l i fun r => ∃ a : Int, (0 ≤ a ∧ a < 4294967296) ∧ r = .int .u32 a := by
  refine PCalls.of hT Tryz.func22 rfl 1 (Nat.le_refl _) fun B hD => ?_
  refine pw_norm rfl ?_
  (refine zGo ?_)
  (refine pl_op rfl (op_call [0] rfl rfl e13 (by decide) rfl rfl rfl zLe zLes (c13n l hl i hi 5 (by decide) (by decide)) (fun r s hq => ?_)); obtain ⟨i1, ⟨m1, hm1, rfl⟩, hi1, rfl⟩ := hq; refine ⟨rfl, rfl, ?_⟩; (refine zNp ?_))
  (refine zGo ?_)
  refine pw_cond rfl (fun h => ?_) (fun h => ?_)
  · (refine zGo ?_)
    (refine pl_op rfl (op_call [0] rfl rfl e13 (by decide) rfl rfl rfl zLe zLes (c13n l hl i1 hi1 6 (by decide) (by decide)) (fun r s hq => ?_)); obtain ⟨i2, ⟨m2, hm2, rfl⟩, hi2, rfl⟩ := hq; refine ⟨rfl, rfl, ?_⟩; (refine zNp ?_))
    (refine pl_op rfl (op_of (v_index (p := .int .u32 (addrs.getD m2 0)) hT rfl rfl rfl rfl (by omega) (lit_at (.int .u32) addrs m2 0 hm2) rfl) ?_); (refine zNp ?_))
    (refine zGo ?_)
    have hr : ∀ a ∈ addrs, 0 ≤ a ∧ a < 4294967296 := by decide
    exact ⟨_, _, _, rfl, ⟨i2, ⟨_, hr _ (getD_mem hm2), rfl⟩, hi2, rfl⟩, .inr (.inl rfl), ⟨.inr (.inl rfl), trivial⟩, rfl, rfl⟩
  · (refine zGo ?_)
    (refine pl_op rfl (op_call [0] rfl rfl e13 (by decide) rfl rfl rfl zLe zLes (c13n l hl i1 hi1 6 (by decide) (by decide)) (fun r s hq => ?_)); obtain ⟨i2, ⟨m2, hm2, rfl⟩, hi2, rfl⟩ := hq; refine ⟨rfl, rfl, ?_⟩; (refine zNp ?_))
    (refine pl_op rfl (op_fun (c37 m2) rfl rfl e37 zLe rfl (fun r hr => ?_)); obtain ⟨p, hp, rfl⟩ := hr; refine ⟨rfl, ?_⟩; (refine zNp ?_))
    have hpr : 0 ≤ p.addr ∧ p.addr < 4294967296 := by
      have : ∀ p ∈ subnets, 0 ≤ p.addr ∧ p.addr < 4294967296 := by decide
      exact this p hp
    have hro := rof_range hpr
    (refine zGo ?_)
    (refine pl_op rfl (op_fun (c54 p) rfl rfl e54 zLe rfl (fun r hr => ?_)); subst hr; refine ⟨rfl, ?_⟩; (refine zNp ?_))
    generalize rof p = q at hro ⊢
    (refine zGo ?_)
    refine pw_draw [(0, true), (1, true), (2, true), (3, true), (4, true), (5, true), (6, true), (7, true), (8, true), (9, true), (10, true), (11, true), (12, true), (13, true), (14, true), (15, false), (16, true), (17, true), (18, true)] hmix (by decide +kernel) ?_
    (refine zDgo ?_)
    (refine po_val rfl rfl (v_arith rfl rfl rfl rfl rfl) ?_; refine zDn ?_)
    (refine zDgo ?_)
    (refine po_val rfl rfl (v_arith rfl rfl rfl rfl rfl) ?_; refine zDn ?_)
    (refine zDgo ?_)
    (refine po_val rfl rfl (v_arith rfl rfl rfl rfl rfl) ?_; refine zDn ?_)
    (refine zDgo ?_)
    (refine po_make rfl rfl (fun st' K hK => op_litF hT rfl rfl rfl rfl rfl (by decide) rfl rfl rfl rfl hK) ?_; refine zDn ?_)
    (refine zDgo ?_)
    (refine po_step rfl rfl (op_call [0] rfl rfl e13 (by decide) rfl rfl rfl zLe zLes (c13n l hl i2 hi2 5 (by decide) (by decide)) (fun r s hq => ?_)); obtain ⟨i3, ⟨m3, hm3, rfl⟩, hi3, rfl⟩ := hq; refine ⟨rfl, rfl, zLok, ?_⟩; refine zDn ?_)
    (refine zDgo ?_)
    (refine po_val rfl rfl (v_index (p := .int .u32 ([q.1, q.2, IntKind.u32.wrap (q.1 + 5), IntKind.u32.wrap (q.2 + 1), IntKind.u32.wrap (q.1 - 1)].getD m3 0)) hT rfl rfl rfl rfl (by omega) (lit_at (.int .u32) [q.1, q.2, IntKind.u32.wrap (q.1 + 5), IntKind.u32.wrap (q.2 + 1), IntKind.u32.wrap (q.1 - 1)] m3 0 hm3) rfl) ?_; refine zDn ?_)
    (refine zDgo ?_)
    (refine zGo ?_)
    have hr : ∀ a ∈ [q.1, q.2, IntKind.u32.wrap (q.1 + 5), IntKind.u32.wrap (q.2 + 1), IntKind.u32.wrap (q.1 - 1)], 0 ≤ a ∧ a < 4294967296 := by
      intro a ha
      simp only [List.mem_cons, List.mem_nil_iff, or_false] at ha
      rcases ha with rfl | rfl | rfl | rfl | rfl
      · exact hro.1
      · exact hro.2
      all_goals exact u32_range _
    exact ⟨_, _, _, rfl, ⟨i3, ⟨_, hr _ (getD_mem hm3), rfl⟩, hi3, rfl⟩, .inr (.inl rfl), ⟨.inr (.inl rfl), trivial⟩, rfl, rfl⟩
end Go.Proofs.YtdehdgbdcfkpbaaGreatDoor
