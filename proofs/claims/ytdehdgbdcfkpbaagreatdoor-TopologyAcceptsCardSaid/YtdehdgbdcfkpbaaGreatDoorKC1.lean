/-
  Contracts of functions, walked over pure values.
-/
import Derived.Test.YtdehdgbdcfkpbaaGreatDoorKB5
import Derived.Test.YtdehdgbdcfkpbaaGreatDoorKEnts
namespace Go.Proofs.YtdehdgbdcfkpbaaGreatDoor
open Go Go.Pw
variable {Gl : Glob}
attribute [local irreducible] PW PWL OpP PCalls PWO
set_option maxHeartbeats 20000000

/-! ### nsggen.Mod -/
def modN (v n : Int) : Int := (IntKind.u64.wrap v).tmod n
theorem wrap_u64 (v : Int) : 0 ≤ IntKind.u64.wrap v ∧ IntKind.u64.wrap v < 18446744073709551616 := by
  rw [IntKind.wrap_u64]; omega
theorem modN_lt (v n : Int) (h : 0 < n) : 0 ≤ modN v n ∧ modN v n < n := by
  have := wrap_u64 v
  unfold modN
  exact ⟨Int.tmod_nonneg _ this.1, Int.tmod_lt_of_pos _ h⟩
theorem c31 (v n : Int) (h0 : 0 < n) (h1 : n ≤ 9223372036854775807) : PFun Tryz.prog Gl 31 [.int .i64 v, .int .i64 n] fun r => r = .int .i64 (modN v n) := by
  refine PFun.of hT Tryz.func31 rfl fun B hD => ?_
  refine pw_norm rfl ?_
  (refine zGo ?_)
  (refine pl_op rfl (op_of (v_conv hT rfl rfl rfl rfl rfl) ?_); (refine zNp ?_))
  (refine zGo ?_)
  (refine pl_op rfl (op_of (v_conv (c := n) hT rfl rfl rfl rfl (IntWalk.u64_in _ (by omega))) ?_); (refine zNp ?_))
  (refine pl_op rfl (op_of (v_rem rfl rfl rfl (by omega) rfl) ?_); (refine zNp ?_))
  have := modN_lt v n h0
  unfold modN at this
  (refine pl_op rfl (op_of (v_conv (c := modN v n) hT rfl rfl rfl rfl (IntWalk.i64_in _ (by omega))) ?_); (refine zNp ?_))
  (refine zGo ?_)
  refine ret1 _ rfl rfl rfl
theorem c10 (l : List Int) : PCalls Tryz.prog Gl 10 [.sl (l.map eInt)] [] fun r s => r = .ptr 0 0 ∧ s = [.box [.sl (l.map eInt), .int .i64 0]] := by
  refine PCalls.of hT Tryz.func10 rfl 1 (Nat.zero_le _) fun B hD => ?_
  refine pw_norm rfl ?_
  (refine zGo ?_)
  exact ⟨_, _, _, rfl, ⟨rfl, rfl⟩, .inr (.inl rfl), ⟨.inr (.inl rfl), trivial⟩, rfl, rfl⟩
/-- A tape's length: what Go's numbers hold. -/
def Tp (l : List Int) : Prop := l.length ≤ 9223372036854775807
/-- Tape.Next: some choice. -/
theorem c13 (l : List Int) (hl : Tp l) (i : Nat) (hi : i ≤ l.length) (n : Int) (hn : n ≤ 9223372036854775807) : PCalls Tryz.prog Gl 13 [.ptr 0 0, .int .i64 n] [.box [.sl (l.map eInt), .int .i64 i]] fun r s =>
    ∃ (m : Int) (i' : Nat), r = .int .i64 m ∧ 0 ≤ m ∧ (m < n ∨ m = 0) ∧ i' ≤ l.length ∧ s = [.box [.sl (l.map eInt), .int .i64 i']] := by
  refine PCalls.of hT Tryz.func13 rfl 1 (Nat.le_refl _) fun B hD => ?_
  refine pw_norm rfl ?_
  unfold Tp at hl
  (refine zGo ?_)
  refine pw_draw [(0, true), (1, true), (2, true), (3, true), (4, true), (5, true), (6, true), (7, true), (8, true), (9, true), (10, true), (11, true), (12, true), (13, true)] hmix (by decide +kernel) ?_
  (refine zDgo ?_)
  refine po_split 7 rfl (fun h => ?_) (fun h => ?_)
  · (refine zDgo ?_)
    (refine zGo ?_)
    exact ⟨_, _, _, rfl, ⟨0, i, rfl, Int.le_refl _, .inr rfl, hi, rfl⟩, .inr (.inl rfl), ⟨.inr (.inl rfl), trivial⟩, rfl, rfl⟩
  · (refine zDgo ?_)
    (refine zGo ?_)
    refine pw_cond rfl (fun h2 => ?_) (fun h2 => ?_)
    · (refine zGo ?_)
      exact ⟨_, _, _, rfl, ⟨0, i, rfl, Int.le_refl _, .inr rfl, hi, rfl⟩, .inr (.inl rfl), ⟨.inr (.inl rfl), trivial⟩, rfl, rfl⟩
    · have hlt : i < l.length := by have h2' := of_decide_eq_false h2; rw [List.length_map] at h2'; omega
      have hn1 : 1 < n := by have h' := of_decide_eq_false h; omega
      (refine zGo ?_)
      refine pw_draw [(0, true), (1, true), (2, true), (3, true), (4, true), (5, true), (6, true), (7, true), (8, true), (9, true), (10, true), (11, true), (12, false), (13, true)] hmix (by decide +kernel) ?_
      (refine zDgo ?_)
      (refine po_val rfl rfl (v_index (p := eInt l[i]) hT rfl rfl rfl rfl (by omega) (by simp [hlt]) rfl) ?_; refine zDn ?_)
      (refine zDgo ?_)
      (refine po_step rfl rfl (op_fun (c31 l[i] n (by omega) hn) rfl rfl e31 zLe rfl (fun r hr => ?_)); subst hr; refine ⟨rfl, zLok, ?_⟩; refine zDn ?_)
      (refine zDgo ?_)
      (refine zGo ?_)
      have hm := modN_lt l[i] n (by omega)
      exact ⟨_, _, _, rfl, ⟨modN l[i] n, i + 1, rfl, hm.1, .inl hm.2, hlt, rfl⟩, .inr (.inl rfl), ⟨.inr (.inl rfl), trivial⟩, rfl, rfl⟩
def huge (t : Topo) : Bool := ((decide ((t.devs.length : Int) > 6) || decide ((t.links.length : Int) > 9)) || decide ((t.edges.length : Int) > 5)) || decide ((t.pools.length : Int) > 4)
theorem c30 (t : Topo) : PFun Tryz.prog Gl 30 [eTopo t] fun r => r = .bool (huge t) := by
  refine PFun.of hT Tryz.func30 rfl fun B hD => ?_
  refine pw_norm rfl ?_
  (refine zGo ?_)
  (refine pl_or 5 7 12 (decide (((t.links.map eLink).length : Int) > 9)) rfl rfl rfl (fun hb => ?_) (fun hb => ?_) ?_; (focus ((refine zNp ?_); (refine zGo ?_); exact ⟨by (exact zLe), StLe.refl _⟩)); (focus ((refine zNp ?_); (refine zGo ?_); exact ⟨by (exact zLe), StLe.refl _⟩)); (refine zNp ?_); (refine zGo ?_))
  (refine pl_or 5 13 18 (decide (((t.edges.map eEdge).length : Int) > 5)) rfl rfl rfl (fun hb => ?_) (fun hb => ?_) ?_; (focus ((refine zNp ?_); (refine zGo ?_); exact ⟨by (exact zLe), StLe.refl _⟩)); (focus ((refine zNp ?_); (refine zGo ?_); exact ⟨by (exact zLe), StLe.refl _⟩)); (refine zNp ?_); (refine zGo ?_))
  (refine pl_or 5 19 24 (decide (((t.pools.map ePfx).length : Int) > 4)) rfl rfl rfl (fun hb => ?_) (fun hb => ?_) ?_; (focus ((refine zNp ?_); (refine zGo ?_); exact ⟨by (exact zLe), StLe.refl _⟩)); (focus ((refine zNp ?_); (refine zGo ?_); exact ⟨by (exact zLe), StLe.refl _⟩)); (refine zNp ?_); (refine zGo ?_))
  refine ret1 _ rfl ?_ rfl
  simp only [huge, List.length_map]
def subnets : List TPfx := [⟨167772160, 24⟩, ⟨167772416, 24⟩, ⟨167772672, 25⟩, ⟨167772800, 26⟩, ⟨2886729728, 16⟩, ⟨3232237321, 32⟩]
def subnetN (n : Int) : TPfx := subnets.getD (modN n 6).toNat ⟨0, 0⟩
theorem subnetN_mem (n : Int) : subnetN n ∈ subnets := by
  have hm := modN_lt n 6 (by omega)
  have hlt : (modN n 6).toNat < subnets.length := by show _ < 6; omega
  rw [subnetN, List.getD, List.getElem?_eq_getElem hlt]
  exact List.getElem_mem hlt
theorem subnetN_small (n : Nat) (h : n < 6) : subnetN n = subnets.getD n ⟨0, 0⟩ := by
  have : modN n 6 = n := by
    unfold modN
    rw [IntWalk.u64_in _ (by omega), Int.tmod_eq_of_lt (by omega) (by omega)]
  rw [subnetN, this]; rfl
theorem c37s (n : Int) : PFun Tryz.prog Gl 37 [.int .i64 n] fun r => r = ePfx (subnetN n) := by
  refine PFun.of hT Tryz.func37 rfl fun B hD => ?_
  refine pw_norm rfl ?_
  (refine zGo ?_)
  (refine pl_op rfl (op_fun (c31 n 6 (by omega) (by omega)) rfl rfl e31 zLe rfl (fun r hr => ?_)); subst hr; refine ⟨rfl, ?_⟩; (refine zNp ?_))
  have hm := modN_lt n 6 (by omega)
  have hlt : (modN n 6).toNat < subnets.length := by show _ < 6; omega
  (refine pl_op rfl (op_of (v_index (p := ePfx (subnetN n)) hT rfl rfl rfl rfl (by omega) ((List.getElem?_map (f := ePfx) (l := subnets)).trans (by rw [List.getElem?_eq_getElem hlt, subnetN, List.getD, List.getElem?_eq_getElem hlt]; rfl)) rfl) ?_); (refine zNp ?_))
  (refine zGo ?_)
  exact ret1 _ rfl rfl rfl
theorem c37 (n : Int) : PFun Tryz.prog Gl 37 [.int .i64 n] fun r => ∃ p : TPfx, p ∈ subnets ∧ r = ePfx p := (c37s n).mono fun _ h => ⟨_, subnetN_mem n, h⟩
end Go.Proofs.YtdehdgbdcfkpbaaGreatDoor
namespace Go.Proofs.YtdehdgbdcfkpbaaGreatDoor
open Go Go.Pw
variable {Gl : Glob}
attribute [local irreducible] PW PWL OpP PCalls PWO

/-- prefix.mask -/
def mask (n : Int) : Int := IntKind.u32.wrap (4294967295 * 2 ^ (min (32 - n).toNat 32))
def andN (a b : Int) : Int := IntKind.u32.wrap (BitVec.ofInt 32 a &&& ~~~ BitVec.ofInt 32 b).toNat
def andB (a b : Int) : Int := IntKind.u32.wrap (BitVec.ofInt 32 a &&& BitVec.ofInt 32 b).toNat
theorem c90 (n : Int) (h0 : 0 ≤ n) (h1 : n ≤ 32) : PFun Tryz.prog Gl 90 [.int .i64 n] fun r => r = .int .u32 (mask n) := by
  refine PFun.of hT Tryz.func90 rfl fun B hD => ?_
  refine pw_norm rfl ?_
  (refine zGo ?_)
  (refine pl_op rfl (op_of (v_conv (c := 32 - n) hT rfl rfl rfl rfl (IntWalk.u64_in _ (by omega))) ?_); (refine zNp ?_))
  (refine pl_op rfl (op_of (v_shl rfl rfl rfl (by omega) rfl) ?_); (refine zNp ?_))
  (refine zGo ?_)
  refine ret1 _ rfl rfl rfl
/-- prefix.Valid -/
def pvalid (p : TPfx) : Bool := decide (0 ≤ p.bits) && decide (p.bits ≤ 32) && (andN p.addr (mask p.bits) == 0)
theorem pvalid_bits {p : TPfx} (h : pvalid p = true) : 0 ≤ p.bits ∧ p.bits ≤ 32 := by
  simp only [pvalid, Bool.and_eq_true, decide_eq_true_eq] at h
  exact h.1
theorem c45 (p : TPfx) : PFun Tryz.prog Gl 45 [ePfx p] fun r => r = .bool (pvalid p) := by
  refine PFun.of hT Tryz.func45 rfl fun B hD => ?_
  refine pw_norm rfl ?_
  (refine zGo ?_)
  refine pw_draw [(0, true), (1, true), (2, true), (3, true), (4, true), (5, true), (6, true), (7, true), (8, true), (9, true), (10, true), (11, true), (12, true), (13, false), (14, true), (15, true), (16, true), (17, true)] hmix (by decide +kernel) ?_
  (refine zDgo ?_)
  refine po_split 6 rfl (fun h => ?_) (fun h => ?_)
  · (refine zDgo ?_)
    refine po_split 11 rfl (fun h2 => ?_) (fun h2 => ?_)
    · (refine zDgo ?_)
      have h' := h
      have h2' := h2
      simp only [decide_eq_true_eq, ge_iff_le] at h' h2'
      (refine po_on rfl rfl rfl (op_fun (c90 p.bits h' h2') rfl rfl e90 zLe rfl (fun r hr => ?_)); subst hr; refine ⟨rfl, zLok, ?_⟩; refine zDn ?_)
      (refine po_gval rfl rfl rfl (v_bits rfl rfl rfl rfl rfl) ?_; refine zDn ?_)
      (refine zDgo ?_)
      (refine zGo ?_)
      refine ret1 _ rfl ?_ rfl
      simp only [pvalid, h', h2', decide_true, Bool.true_and]
      rfl
    · (refine zDgo ?_)
      (refine zGo ?_)
      refine ret1 _ rfl ?_ rfl
      simp [pvalid, h2]
  · (refine zDgo ?_)
    (refine zGo ?_)
    refine ret1 _ rfl ?_ rfl
    have h' : ¬ (0 ≤ p.bits) := by simpa using h
    simp [pvalid, h']
/-- prefix.Contains -/
def pcont (p : TPfx) (a : Int) : Bool := pvalid p && (andB a (mask p.bits) == p.addr)
theorem c57 (p : TPfx) (a : Int) : PFun Tryz.prog Gl 57 [ePfx p, .int .u32 a] fun r => r = .bool (pcont p a) := by
  refine PFun.of hT Tryz.func57 rfl fun B hD => ?_
  refine pw_norm rfl ?_
  (refine zGo ?_)
  refine pw_draw [(0, true), (1, false), (2, true), (3, true), (4, true), (5, true), (8, true), (9, true), (6, false), (7, true), (10, true), (11, true), (12, true)] hmix (by decide +kernel) ?_
  (refine zDgo ?_)
  (refine po_step rfl rfl (op_fun (c45 p) rfl rfl e45 zLe rfl (fun r hr => ?_)); subst hr; refine ⟨rfl, zLok, ?_⟩; refine zDn ?_)
  (refine zDgo ?_)
  refine po_split 7 rfl (fun h => ?_) (fun h => ?_)
  · (refine zDgo ?_)
    have hb := pvalid_bits h
    (refine po_on rfl rfl rfl (op_fun (c90 p.bits hb.1 hb.2) rfl rfl e90 zLe rfl (fun r hr => ?_)); subst hr; refine ⟨rfl, zLok, ?_⟩; refine zDn ?_)
    (refine po_gval rfl rfl rfl (v_bits rfl rfl rfl rfl rfl) ?_; refine zDn ?_)
    (refine zDgo ?_)
    (refine zGo ?_)
    refine ret1 _ rfl ?_ rfl
    simp only [pcont, h, Bool.true_and]
    rfl
  · (refine zDgo ?_)
    (refine zGo ?_)
    refine ret1 _ rfl ?_ rfl
    simp [pcont, h]
/-- prefix.Covers -/
def pcov (p q : TPfx) : Bool := pvalid q && decide (p.bits ≤ q.bits) && pcont p q.addr
theorem c89 (p q : TPfx) : PFun Tryz.prog Gl 89 [ePfx p, ePfx q] fun r => r = .bool (pcov p q) := by
  refine PFun.of hT Tryz.func89 rfl fun B hD => ?_
  refine pw_norm rfl ?_
  (refine zGo ?_)
  (refine pl_op rfl (op_fun (c45 q) rfl rfl e45 zLe rfl (fun r hr => ?_)); subst hr; refine ⟨rfl, ?_⟩; (refine zNp ?_))
  (refine zGo ?_)
  refine pl_split 7 rfl (fun h => ?_) (fun h => ?_)
  · (refine zGo ?_)
    refine pl_split 14 rfl (fun h2 => ?_) (fun h2 => ?_)
    · (refine zGo ?_)
      (refine pl_on rfl rfl (op_fun (c57 p q.addr) rfl rfl e57 zLe rfl (fun r hr => ?_)); subst hr; refine ⟨rfl, ?_⟩; (refine zNp ?_))
      (refine zGo ?_)
      refine ret1 _ rfl ?_ rfl
      simp only [pcov, h, h2, Bool.true_and]
    · (refine zGo ?_)
      refine ret1 _ rfl ?_ rfl
      simp only [pcov, h, h2, Bool.true_and, Bool.false_and]
  · (refine zGo ?_)
    refine ret1 _ rfl ?_ rfl
    simp only [pcov, h, Bool.false_and]
/-- topology.overlap -/
def pover (p q : TPfx) : Bool := pcov p q || pcov q p
theorem c44 (p q : TPfx) : PFun Tryz.prog Gl 44 [ePfx p, ePfx q] fun r => r = .bool (pover p q) := by
  refine PFun.of hT Tryz.func44 rfl fun B hD => ?_
  refine pw_norm rfl ?_
  (refine zGo ?_)
  (refine pl_op rfl (op_fun (c89 p q) rfl rfl e89 zLe rfl (fun r hr => ?_)); subst hr; refine ⟨rfl, ?_⟩; (refine zNp ?_))
  (refine zGo ?_)
  refine pl_split 8 rfl (fun h => ?_) (fun h => ?_)
  · (refine zGo ?_)
    refine ret1 _ rfl ?_ rfl
    simp only [pover, h, Bool.true_or]
  · (refine zGo ?_)
    (refine pl_on rfl rfl (op_fun (c89 q p) rfl rfl e89 zLe rfl (fun r hr => ?_)); subst hr; refine ⟨rfl, ?_⟩; (refine zNp ?_))
    (refine zGo ?_)
    refine ret1 _ rfl ?_ rfl
    simp only [pover, h, Bool.false_or]
end Go.Proofs.YtdehdgbdcfkpbaaGreatDoor
