/-
  Contracts of functions, walked over pure values.
-/
import Derived.Test.YtdehdgbdcfkpbaaGreatDoorKA5
import Derived.Test.YtdehdgbdcfkpbaaGreatDoorKB8
namespace Go.Proofs.YtdehdgbdcfkpbaaGreatDoor
open Go Go.Pw
variable {Gl : Glob}
attribute [local irreducible] PW PWL OpP PCalls PWO
set_option maxHeartbeats 20000000
set_option maxRecDepth 100000

def PfxIn (p : TPfx) : Prop := 0 ≤ p.addr ∧ p.addr < 4294967296
def someBits : List Int := [32, 31, 24, 25, 8, 1, 0, 16, 30, 23]
theorem subnets_in {p : TPfx} (h : p ∈ subnets) : PfxIn p := by
  have : ∀ p ∈ subnets, 0 ≤ p.addr ∧ p.addr < 4294967296 := by decide
  exact this p h
theorem c76 (l : List Int) (hl : Tp l) (i : Nat) (hi : i ≤ l.length) : Gen Gl 76 [] l i fun r => ∃ p : TPfx, PfxIn p ∧ r = ePfx p := by
  refine PCalls.of hT Tryz.func76 rfl 1 (Nat.le_refl _) fun B hD => ?_
  refine pw_norm rfl ?_
  (refine zGo ?_)
  (refine pl_op rfl (op_call [0] rfl rfl e13 (by decide) rfl rfl rfl zLe zLes (c13n l hl i hi 3 (by decide) (by decide)) (fun r s hq => ?_)); obtain ⟨i1, ⟨m1, hm1, rfl⟩, hi1, rfl⟩ := hq; refine ⟨rfl, rfl, ?_⟩; (refine zNp ?_))
  (refine zGo ?_)
  refine pw_cond rfl (fun h => ?_) (fun h => ?_)
  · (refine zGo ?_)
    (refine pl_op rfl (op_call [0] rfl rfl e13 (by decide) rfl rfl rfl zLe zLes (c13n l hl i1 hi1 6 (by decide) (by decide)) (fun r s hq => ?_)); obtain ⟨i2, ⟨m2, hm2, rfl⟩, hi2, rfl⟩ := hq; refine ⟨rfl, rfl, ?_⟩; (refine zNp ?_))
    (refine pl_op rfl (op_fun (c37 m2) rfl rfl e37 zLe rfl (fun r hr => ?_)); obtain ⟨p, hp, rfl⟩ := hr; refine ⟨rfl, ?_⟩; (refine zNp ?_))
    (refine zGo ?_)
    exact ⟨_, _, _, rfl, ⟨i2, ⟨p, subnets_in hp, rfl⟩, hi2, rfl⟩, .inr (.inl rfl), ⟨.inr (.inl rfl), trivial⟩, rfl, rfl⟩
  · (refine zGo ?_)
    (refine pl_op rfl (op_call [0] rfl rfl e13 (by decide) rfl rfl rfl zLe zLes (c13n l hl i1 hi1 10 (by decide) (by decide)) (fun r s hq => ?_)); obtain ⟨i2, ⟨m2, hm2, rfl⟩, hi2, rfl⟩ := hq; refine ⟨rfl, rfl, ?_⟩; (refine zNp ?_))
    (refine pl_op rfl (op_of (v_index (p := .int .i64 (someBits.getD m2 0)) hT rfl rfl rfl rfl (by omega) (lit_at (.int .i64) someBits m2 0 hm2) rfl) ?_); (refine zNp ?_))
    have hb : 0 ≤ someBits.getD m2 0 ∧ someBits.getD m2 0 ≤ 32 := by
      have : ∀ b ∈ someBits, 0 ≤ b ∧ b ≤ 32 := by decide
      exact this _ (getD_mem hm2)
    generalize someBits.getD m2 0 = bits at hb ⊢
    (refine zGo ?_)
    (refine pl_op rfl (op_call [0] rfl rfl e22 (by decide) rfl rfl rfl zLe zLes (c22 l hl i2 hi2) (fun r s hq => ?_)); obtain ⟨i3, ⟨a, ha, rfl⟩, hi3, rfl⟩ := hq; refine ⟨rfl, rfl, ?_⟩; (refine zNp ?_))
    (refine zGo ?_)
    refine pw_cond rfl (fun h2 => ?_) (fun h2 => ?_)
    · simp only [decide_eq_true_eq] at h2
      (refine zGo ?_)
      (refine pl_op rfl (op_of (v_conv (c := 32 - bits) hT rfl rfl rfl rfl (IntWalk.u64_in _ (by omega))) ?_); (refine zNp ?_))
      (refine pl_op rfl (op_of (v_shr rfl rfl rfl (by omega) rfl) ?_); (refine zNp ?_))
      (refine zGo ?_)
      (refine pl_op rfl (op_of (v_conv (c := 32 - bits) hT rfl rfl rfl rfl (IntWalk.u64_in _ (by omega))) ?_); (refine zNp ?_))
      (refine pl_op rfl (op_of (v_shl rfl rfl rfl (by omega) rfl) ?_); (refine zNp ?_))
      (refine zGo ?_)
      exact ⟨_, _, _, rfl, ⟨i3, ⟨⟨_, bits⟩, u32_range _, rfl⟩, hi3, rfl⟩, .inr (.inl rfl), ⟨.inr (.inl rfl), trivial⟩, rfl, rfl⟩
    · (refine zGo ?_)
      exact ⟨_, _, _, rfl, ⟨i3, ⟨⟨a, bits⟩, ha, rfl⟩, hi3, rfl⟩, .inr (.inl rfl), ⟨.inr (.inl rfl), trivial⟩, rfl, rfl⟩
def spoilBits : List Int := [-1, 33, 0, 32]
theorem c75 (l : List Int) (hl : Tp l) (i : Nat) (hi : i ≤ l.length) (p : TPfx) (hp : PfxIn p) : Gen Gl 75 [ePfx p] l i fun r => ∃ p : TPfx, PfxIn p ∧ r = ePfx p := by
  refine PCalls.of hT Tryz.func75 rfl 1 (Nat.le_refl _) fun B hD => ?_
  refine pw_norm rfl ?_
  (refine zGo ?_)
  (refine pl_op rfl (op_call [0] rfl rfl e13 (by decide) rfl rfl rfl zLe zLes (c13n l hl i hi 4 (by decide) (by decide)) (fun r s hq => ?_)); obtain ⟨i1, ⟨m1, hm1, rfl⟩, hi1, rfl⟩ := hq; refine ⟨rfl, rfl, ?_⟩; (refine zNp ?_))
  (refine zGo ?_)
  refine pw_cond rfl (fun h => ?_) (fun h => ?_)
  · (refine zGo ?_)
    (refine pl_op rfl (op_call [0] rfl rfl e13 (by decide) rfl rfl rfl zLe zLes (c13n l hl i1 hi1 4 (by decide) (by decide)) (fun r s hq => ?_)); obtain ⟨i2, ⟨m2, hm2, rfl⟩, hi2, rfl⟩ := hq; refine ⟨rfl, rfl, ?_⟩; (refine zNp ?_))
    (refine pl_op rfl (op_of (v_index (p := .int .i64 (spoilBits.getD m2 0)) hT rfl rfl rfl rfl (by omega) (lit_at (.int .i64) spoilBits m2 0 hm2) rfl) ?_); (refine zNp ?_))
    (refine zGo ?_)
    exact ⟨_, _, _, rfl, ⟨i2, ⟨⟨p.addr, spoilBits.getD m2 0⟩, hp, rfl⟩, hi2, rfl⟩, .inr (.inl rfl), ⟨.inr (.inl rfl), trivial⟩, rfl, rfl⟩
  (refine zGo ?_)
  refine pw_cond rfl (fun h => ?_) (fun h => ?_)
  · (refine zGo ?_)
    (refine pl_op rfl (op_of (v_bits rfl rfl rfl rfl rfl) ?_); (refine zNp ?_))
    (refine zGo ?_)
    exact ⟨_, _, _, rfl, ⟨i1, ⟨⟨_, p.bits⟩, u32_range _, rfl⟩, hi1, rfl⟩, .inr (.inl rfl), ⟨.inr (.inl rfl), trivial⟩, rfl, rfl⟩
  (refine zGo ?_)
  refine pw_cond rfl (fun h => ?_) (fun h => ?_)
  · (refine zGo ?_)
    (refine pl_op rfl (op_of (v_arith rfl rfl rfl rfl rfl) ?_); (refine zNp ?_))
    (refine zGo ?_)
    exact ⟨_, _, _, rfl, ⟨i1, ⟨⟨p.addr, IntKind.i64.wrap (p.bits + 1)⟩, hp, rfl⟩, hi1, rfl⟩, .inr (.inl rfl), ⟨.inr (.inl rfl), trivial⟩, rfl, rfl⟩
  (refine zGo ?_)
  refine pw_draw [(0, true), (1, true), (2, true), (3, false), (4, true), (5, true), (6, true), (7, true), (8, false)] hmix (by decide +kernel) ?_
  (refine zDgo ?_)
  (refine po_step rfl rfl (op_call [0] rfl rfl e13 (by decide) rfl rfl rfl zLe zLes (c13n l hl i1 hi1 32 (by decide) (by decide)) (fun r s hq => ?_)); obtain ⟨i2, ⟨m2, hm2, rfl⟩, hi2, rfl⟩ := hq; refine ⟨rfl, rfl, zLok, ?_⟩; refine zDn ?_)
  (refine zDgo ?_)
  (refine po_val rfl rfl (v_conv (c := (m2 : Int)) hT rfl rfl rfl rfl (IntWalk.u64_in _ (by omega))) ?_; refine zDn ?_)
  (refine zDgo ?_)
  (refine po_val rfl rfl (v_shl rfl rfl rfl (by omega) rfl) ?_; refine zDn ?_)
  (refine zDgo ?_)
  (refine po_val rfl rfl (v_bits rfl rfl rfl rfl rfl) ?_; refine zDn ?_)
  (refine zDgo ?_)
  (refine zGo ?_)
  exact ⟨_, _, _, rfl, ⟨i2, ⟨⟨_, p.bits⟩, u32_range _, rfl⟩, hi2, rfl⟩, .inr (.inl rfl), ⟨.inr (.inl rfl), trivial⟩, rfl, rfl⟩
/-- A topology in arrays of one's own: objects n to n + 3. -/
def mTopo (n : Nat) (t : Topo) (c : Caps) : List PV := [.msl 5 n 0 (t.devs.map eDev).length c.1, .msl 3 (n + 1) 0 (t.links.map eLink).length c.2.1, .msl 6 (n + 2) 0 (t.edges.map eEdge).length c.2.2.1, .msl 2 (n + 3) 0 (t.pools.map ePfx).length c.2.2.2, .int .i64 t.tol]
def aTopo (t : Topo) (c : Caps) : List PObj := [.arr 5 (t.devs.map eDev) c.1, .arr 3 (t.links.map eLink) c.2.1, .arr 6 (t.edges.map eEdge) c.2.2.1, .arr 2 (t.pools.map ePfx) c.2.2.2]
theorem c74 (t : Topo) (ht : TOk t) : PCalls Tryz.prog Gl 74 [eTopo t] [] fun r s => ∃ c, r = .agg (mTopo 2 t c) ∧ s = .dead :: .dead :: aTopo t c := by
  refine PCalls.of hT Tryz.func74 rfl 6 (Nat.zero_le _) fun B hD => ?_
  refine pw_norm rfl ?_
  have h1 := ht.devs
  have h2 := ht.links
  have h3 := ht.edges
  have h4 := ht.pools
  unfold Small at h1 h2 h3 h4
  (refine zGom ?_)
  (refine pl_op rfl (op_litm hT rfl rfl rfl rfl rfl (by decide) rfl rfl rfl rfl ?_); (refine zNp ?_))
  (refine zGom ?_)
  (refine pl_appendN (b := 48) hT hD rfl rfl rfl rfl rfl rfl rfl rfl ?_ ?_ (by simp; omega) (fun c1 hcap => ?_); (focus (simp only [List.all_map]; exact List.all_eq_true.2 fun _ _ => rfl)); (focus (simp only [List.all_map]; exact List.all_eq_true.2 fun _ _ => rfl)); (refine zNp ?_))
  (refine zGom ?_)
  (refine pl_op rfl (op_litm hT rfl rfl rfl rfl rfl (by decide) rfl rfl rfl rfl ?_); (refine zNp ?_))
  (refine zGom ?_)
  (refine pl_appendN (b := 24) hT hD rfl rfl rfl rfl rfl rfl rfl rfl ?_ ?_ (by simp; omega) (fun c2 hcap => ?_); (focus (simp only [List.all_map]; exact List.all_eq_true.2 fun _ _ => rfl)); (focus (simp only [List.all_map]; exact List.all_eq_true.2 fun _ _ => rfl)); (refine zNp ?_))
  (refine zGom ?_)
  (refine pl_op rfl (op_litm hT rfl rfl rfl rfl rfl (by decide) rfl rfl rfl rfl ?_); (refine zNp ?_))
  (refine zGom ?_)
  (refine pl_appendN (b := 64) hT hD rfl rfl rfl rfl rfl rfl rfl rfl ?_ ?_ (by simp; omega) (fun c3 hcap => ?_); (focus (simp only [List.all_map]; exact List.all_eq_true.2 fun _ _ => rfl)); (focus (simp only [List.all_map]; exact List.all_eq_true.2 fun _ _ => rfl)); (refine zNp ?_))
  (refine zGom ?_)
  (refine pl_op rfl (op_litm hT rfl rfl rfl rfl rfl (by decide) rfl rfl rfl rfl ?_); (refine zNp ?_))
  (refine zGom ?_)
  (refine pl_appendN (b := 16) hT hD rfl rfl rfl rfl rfl rfl rfl rfl ?_ ?_ (by simp; omega) (fun c4 hcap => ?_); (focus (simp only [List.all_map]; exact List.all_eq_true.2 fun _ _ => rfl)); (focus (simp only [List.all_map]; exact List.all_eq_true.2 fun _ _ => rfl)); (refine zNp ?_))
  (refine zGo ?_)
  exact ⟨_, _, _, rfl, ⟨(c1, c2, c3, c4), rfl, rfl⟩, .inr (.inl rfl), ⟨.inl rfl, .inl rfl, .inr (.inl rfl), .inr (.inl rfl), .inr (.inl rfl), .inr (.inl rfl), trivial⟩, rfl, rfl⟩
end Go.Proofs.YtdehdgbdcfkpbaaGreatDoor
