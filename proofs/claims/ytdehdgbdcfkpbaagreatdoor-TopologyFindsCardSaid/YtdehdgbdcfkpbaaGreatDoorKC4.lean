/-
  Contracts of functions, walked over pure values.
-/
import Derived.Test.YtdehdgbdcfkpbaaGreatDoorKC1
import Derived.Test.YtdehdgbdcfkpbaaGreatDoorKA6
import Derived.Test.YtdehdgbdcfkpbaaGreatDoorJPwLoop
namespace Go.Proofs.YtdehdgbdcfkpbaaGreatDoor
open Go Go.Pw
variable {Gl : Glob}
attribute [local irreducible] PW PWL OpP PCalls PWO
set_option maxHeartbeats 20000000
set_option maxRecDepth 100000

/-! ### the small generators -/
def tape (l : List Int) (i : Nat) : PObj := .box [.sl (l.map eInt), .int .i64 i]
/-- A function over a tape alone: its result satisfies R, and the tape has moved on. -/
def Gen (Gl : Glob) (f : FuncId) (args : List PV) (l : List Int) (i : Nat) (R : PV → Prop) : Prop :=
  PCalls Tryz.prog Gl f (.ptr 0 0 :: args) [tape l i] fun r s => ∃ i' : Nat, R r ∧ i' ≤ l.length ∧ s = [tape l i']
theorem c13n (l : List Int) (hl : Tp l) (i : Nat) (hi : i ≤ l.length) (n : Nat) (hn : 0 < n) (hn2 : n ≤ 1000) : Gen Gl 13 [.int .i64 n] l i fun r => ∃ m : Nat, m < n ∧ r = .int .i64 m := by
  refine (c13 l hl i hi n (by omega)).mono ?_
  rintro r s ⟨m, i', rfl, h1, h2, h3, rfl⟩
  refine ⟨i', ⟨m.toNat, by omega, ?_⟩, h3, rfl⟩
  rw [Int.toNat_of_nonneg h1]
theorem lit_at {α : Type} (e : α → PV) (L : List α) (m : Nat) (d : α) (h : m < L.length) : (L.map e)[((m : Nat) : Int).toNat]? = some (e (L.getD m d)) := by
  rw [Int.toNat_natCast, List.getElem?_map, List.getD, List.getElem?_eq_getElem h]; rfl
theorem getD_mem {α : Type} {L : List α} {m : Nat} {d : α} (h : m < L.length) : L.getD m d ∈ L := by
  rw [List.getD, List.getElem?_eq_getElem h]; exact List.getElem_mem h
def addrs : List Int := [0, 4294967295, 3405803781, 3325256705, 168296448, 2130706433]
theorem u32_range (n : Int) : 0 ≤ IntKind.u32.wrap n ∧ IntKind.u32.wrap n < 4294967296 := by rw [IntKind.wrap_u32]; omega
theorem rof_range {p : TPfx} (h : 0 ≤ p.addr ∧ p.addr < 4294967296) : (0 ≤ (rof p).1 ∧ (rof p).1 < 4294967296) ∧ (0 ≤ (rof p).2 ∧ (rof p).2 < 4294967296) := by
  unfold rof
  split
  · exact ⟨h, u32_range _⟩
  · exact ⟨⟨by decide, by decide⟩, ⟨by decide, by decide⟩⟩
theorem c22 (l : List Int) (hl : Tp l) (i : Nat) (hi : i ≤ l.length) : Gen Gl 22 [] l i fun r => ∃ a : Int, (0 ≤ a ∧ a < 4294967296) ∧ r = .int .u32 a := by
  refine PCalls.of hT Tryz.func22 rfl 1 (Nat.le_refl _) fun B hD => ?_
  refine pw_norm rfl ?_
  (refine zGo ?_)
  (refine pl_op rfl (op_call [0] rfl rfl e13 (by decide) rfl rfl rfl zLe zLes (c13n l hl i hi 5 (by decide) (by decide)) (fun r s hq => ?_)); obtain ⟨i1, ⟨m1, hm1, rfl⟩, hi1, rfl⟩ := hq; refine ⟨rfl, rfl, ?_⟩; (refine zNp ?_))
  (refine zGo ?_)
  refine pw_cond rfl (fun h => ?_) (fun h => ?_)
  · (refine zGo ?_)
    (refine pl_op rfl (op_call [0] rfl rfl e13 (by decide) rfl rfl rfl zLe zLes (c13n l hl i1 hi1 6 (by decide) (by decide)) (fun r s hq => ?_)); obtain ⟨i2, ⟨m2, hm2, rfl⟩, hi2, rfl⟩ := hq; refine ⟨rfl, rfl, ?_⟩; (refine zNp ?_))
    (refine pl_op rfl (op_of (v_index (p := .int .u32 (addrs.getD m2 0)) hT rfl rfl rfl rfl (by omega) (lit_at (.int .u32) addrs m2 0 hm2) rfl) ?_); (refine zNp ?_))
    (refine zGo ?_)
    have hr : ∀ a ∈ addrs, 0 ≤ a ∧ a < 4294967296 := by decide
    exact ⟨_, _, _, rfl, ⟨i2, ⟨_, hr _ (getD_mem hm2), rfl⟩, hi2, rfl⟩, .inr (.inl rfl), ⟨.inr (.inl rfl), trivial⟩, rfl, rfl⟩
  · (refine zGo ?_)
    (refine pl_op rfl (op_call [0] rfl rfl e13 (by decide) rfl rfl rfl zLe zLes (c13n l hl i1 hi1 6 (by decide) (by decide)) (fun r s hq => ?_)); obtain ⟨i2, ⟨m2, hm2, rfl⟩, hi2, rfl⟩ := hq; refine ⟨rfl, rfl, ?_⟩; (refine zNp ?_))
    (refine pl_op rfl (op_fun (c37 m2) rfl rfl e37 zLe rfl (fun r hr => ?_)); obtain ⟨p, hp, rfl⟩ := hr; refine ⟨rfl, ?_⟩; (refine zNp ?_))
    have hpr : 0 ≤ p.addr ∧ p.addr < 4294967296 := by
      have : ∀ p ∈ subnets, 0 ≤ p.addr ∧ p.addr < 4294967296 := by decide
      exact this p hp
    have hro := rof_range hpr
    (refine zGo ?_)
    (refine pl_op rfl (op_fun (c54 p) rfl rfl e54 zLe rfl (fun r hr => ?_)); subst hr; refine ⟨rfl, ?_⟩; (refine zNp ?_))
    generalize rof p = q at hro ⊢
    (refine zGo ?_)
    refine pw_draw [(0, true), (1, true), (2, true), (3, true), (4, true), (5, true), (6, true), (7, true), (8, true), (9, true), (10, true), (11, true), (12, true), (13, true), (14, true), (15, false), (16, true), (17, true), (18, true)] hmix (by decide +kernel) ?_
    (refine zDgo ?_)
    (refine po_val rfl rfl (v_arith rfl rfl rfl rfl rfl) ?_; refine zDn ?_)
    (refine zDgo ?_)
    (refine po_val rfl rfl (v_arith rfl rfl rfl rfl rfl) ?_; refine zDn ?_)
    (refine zDgo ?_)
    (refine po_val rfl rfl (v_arith rfl rfl rfl rfl rfl) ?_; refine zDn ?_)
    (refine zDgo ?_)
    (refine po_make rfl rfl (fun st' K hK => op_litF hT rfl rfl rfl rfl rfl (by decide) rfl rfl rfl rfl hK) ?_; refine zDn ?_)
    (refine zDgo ?_)
    (refine po_step rfl rfl (op_call [0] rfl rfl e13 (by decide) rfl rfl rfl zLe zLes (c13n l hl i2 hi2 5 (by decide) (by decide)) (fun r s hq => ?_)); obtain ⟨i3, ⟨m3, hm3, rfl⟩, hi3, rfl⟩ := hq; refine ⟨rfl, rfl, zLok, ?_⟩; refine zDn ?_)
    (refine zDgo ?_)
    (refine po_val rfl rfl (v_index (p := .int .u32 ([q.1, q.2, IntKind.u32.wrap (q.1 + 5), IntKind.u32.wrap (q.2 + 1), IntKind.u32.wrap (q.1 - 1)].getD m3 0)) hT rfl rfl rfl rfl (by omega) (lit_at (.int .u32) [q.1, q.2, IntKind.u32.wrap (q.1 + 5), IntKind.u32.wrap (q.2 + 1), IntKind.u32.wrap (q.1 - 1)] m3 0 hm3) rfl) ?_; refine zDn ?_)
    (refine zDgo ?_)
    (refine zGo ?_)
    have hr : ∀ a ∈ [q.1, q.2, IntKind.u32.wrap (q.1 + 5), IntKind.u32.wrap (q.2 + 1), IntKind.u32.wrap (q.1 - 1)], 0 ≤ a ∧ a < 4294967296 := by
      intro a ha
      simp only [List.mem_cons, List.mem_nil_iff, or_false] at ha
      rcases ha with rfl | rfl | rfl | rfl | rfl
      · exact hro.1
      · exact hro.2
      all_goals exact u32_range _
    exact ⟨_, _, _, rfl, ⟨i3, ⟨_, hr _ (getD_mem hm3), rfl⟩, hi3, rfl⟩, .inr (.inl rfl), ⟨.inr (.inl rfl), trivial⟩, rfl, rfl⟩
end Go.Proofs.YtdehdgbdcfkpbaaGreatDoor
