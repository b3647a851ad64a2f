/-
  Plain laws of prefixes: both ways of saying that one covers another agree.
-/
import Derived.Test.YtdehdgbdcfkpbaaGreatDoorKA7
import Derived.Test.YtdehdgbdcfkpbaaGreatDoorKC5
namespace Go.Proofs.YtdehdgbdcfkpbaaGreatDoor
open Go Go.Pw
def rcov (p q : TPfx) : Bool := (rvalid q && rcont p (rof q).1) && rcont p (rof q).2
def rmeet (p q : TPfx) : Bool := rcov p q || rcov q p
/-- A valid prefix in naturals. -/
theorem valid_nat {p : TPfx} (hp : PfxIn p) (hv : pvalid p = true) : ∃ m k : Nat, k ≤ 32 ∧ p.bits = 32 - (k : Int) ∧ p.addr = ((m * 2 ^ k : Nat) : Int) ∧ m < 2 ^ (32 - k) := by
  obtain ⟨n, k, hn, hk, ea, eb⟩ := pfx_nat ⟨hp.1, hp.2⟩ (pvalid_bits hv)
  simp only [pvalid, Bool.and_eq_true, beq_iff_eq] at hv
  rw [ea, eb, andN_mask n k hn hk] at hv
  have hm : n % 2 ^ k = 0 := by have := hv.2; omega
  obtain ⟨q, hq⟩ := Nat.dvd_of_mod_eq_zero hm
  have e32 : (2 : Nat) ^ 32 = 2 ^ k * 2 ^ (32 - k) := by rw [← Nat.pow_add]; congr 1; omega
  refine ⟨q, k, hk, eb, by rw [ea, hq, Nat.mul_comm], ?_⟩
  rw [hq, e32] at hn
  exact Nat.lt_of_mul_lt_mul_left hn
theorem block_le {m k : Nat} (hm : m < 2 ^ (32 - k)) (hk : k ≤ 32) : m * 2 ^ k + 2 ^ k ≤ 2 ^ 32 := by
  have e32 : (2 : Nat) ^ 32 = 2 ^ (32 - k) * 2 ^ k := by rw [← Nat.pow_add]; congr 1; omega
  rw [e32, ← Nat.succ_mul]
  exact Nat.mul_le_mul_right _ hm
/-- What lies in a block. -/
theorem pcont_nat {p : TPfx} {m k a : Nat} (hv : pvalid p = true) (hk : k ≤ 32) (eb : p.bits = 32 - (k : Int)) (ea : p.addr = ((m * 2 ^ k : Nat) : Int)) (ha : a < 2 ^ 32) : pcont p (a : Int) = decide (a / 2 ^ k = m) := by
  unfold pcont
  rw [hv, eb, andB_mask a k ha hk, ea, Bool.true_and, Bool.eq_iff_iff, beq_iff_eq, decide_eq_true_eq]
  have h0 : 0 < 2 ^ k := Nat.two_pow_pos k
  constructor
  · intro h
    exact Nat.eq_of_mul_eq_mul_right h0 (Int.ofNat.inj h)
  · intro h; rw [h]
theorem rof_nat {p : TPfx} {m k : Nat} (hv : pvalid p = true) (hp : PfxIn p) (hk : k ≤ 32) (eb : p.bits = 32 - (k : Int)) (ea : p.addr = ((m * 2 ^ k : Nat) : Int)) (hm : m < 2 ^ (32 - k)) :
    (rof p).1 = ((m * 2 ^ k : Nat) : Int) ∧ (rof p).2 = ((m * 2 ^ k + 2 ^ k - 1 : Nat) : Int) := by
  have hv' : rvalid p = true := by rw [← valid_eq p ⟨hp.1, hp.2⟩]; exact hv
  have hb := block_le hm hk
  have h0 : 0 < 2 ^ k := Nat.two_pow_pos k
  unfold rof
  rw [if_pos hv']
  refine ⟨ea, ?_⟩
  show rhi p = _
  unfold rhi
  generalize hx : m * 2 ^ k = x at *
  have h2 : (2 : Nat) ^ k ≤ 2 ^ 32 := Nat.pow_le_pow_right (by omega) hk
  rw [ea, eb, rsize_nat k hk, IntWalk.u64_in (x : Int) (by omega), IntWalk.u64_in ((x : Int) + ((2 ^ k : Nat) : Int)) (by omega), IntWalk.u64_in _ (by omega), IntWalk.u32_in _ (by omega)]
  omega
theorem cov_eq (p q : TPfx) (hp : PfxIn p) (hq : PfxIn q) : rcov p q = pcov p q := by
  unfold rcov pcov
  rw [← valid_eq q ⟨hq.1, hq.2⟩]
  cases hvq : pvalid q with
  | false => rfl
  | true =>
    obtain ⟨n, j, hj, eqb, eqa, hn⟩ := valid_nat hq hvq
    obtain ⟨e1, e2⟩ := rof_nat hvq hq hj eqb eqa hn
    have hbq := block_le hn hj
    have hj0 : 0 < 2 ^ j := Nat.two_pow_pos j
    have hl : (rof q).1 = q.addr := by rw [e1, eqa]
    rw [hl, Bool.true_and, Bool.true_and, cont_eq p q.addr ⟨hp.1, hp.2⟩ ⟨hq.1, hq.2⟩, e2, cont_eq p _ ⟨hp.1, hp.2⟩ ⟨Int.natCast_nonneg _, by omega⟩]
    cases hvp : pvalid p with
    | false =>
      have : ∀ a, pcont p a = false := fun a => by unfold pcont; rw [hvp]; rfl
      rw [this, this]; simp
    | true =>
      obtain ⟨m, k, hk, epb, epa, hm⟩ := valid_nat hp hvp
      have hk0 : 0 < 2 ^ k := Nat.two_pow_pos k
      rw [eqa, pcont_nat hvp hk epb epa (by omega), pcont_nat hvp hk epb epa (by omega), epb, eqb]
      rw [Bool.eq_iff_iff]
      simp only [Bool.and_eq_true, decide_eq_true_eq]
      constructor
      · rintro ⟨h1, h2⟩
        refine ⟨?_, h1⟩
        by_cases hjk : j ≤ k
        · omega
        · exfalso
          have h3 : 2 ^ (k + 1) ≤ 2 ^ j := Nat.pow_le_pow_right (by omega) (by omega)
          rw [Nat.pow_succ] at h3
          have h4 := Nat.div_add_mod (n * 2 ^ j) (2 ^ k)
          have h5 := Nat.div_add_mod (n * 2 ^ j + 2 ^ j - 1) (2 ^ k)
          have h6 := Nat.mod_lt (n * 2 ^ j) hk0
          have h7 := Nat.mod_lt (n * 2 ^ j + 2 ^ j - 1) hk0
          rw [h1] at h4
          rw [h2] at h5
          omega
      · rintro ⟨h1, h2⟩
        refine ⟨h2, ?_⟩
        have hjk : j ≤ k := by omega
        have h3 : 2 ^ k = 2 ^ j * 2 ^ (k - j) := by rw [← Nat.pow_add]; congr 1; omega
        have h4 : n * 2 ^ j / 2 ^ k = n / 2 ^ (k - j) := by
          rw [h3, Nat.mul_comm n, Nat.mul_div_mul_left _ _ hj0]
        have h5 : (n * 2 ^ j + 2 ^ j - 1) / 2 ^ k = n / 2 ^ (k - j) := by
          rw [h3, ← Nat.div_div_eq_div_mul]
          congr 1
          apply Nat.div_eq_of_lt_le
          · omega
          · rw [Nat.succ_mul]; omega
        rw [h5, ← h4, h2]
theorem meet_eq (p q : TPfx) (hp : PfxIn p) (hq : PfxIn q) : rmeet p q = pover p q := by
  unfold rmeet pover
  rw [cov_eq p q hp hq, cov_eq q p hq hp]
theorem pover_comm (p q : TPfx) : pover p q = pover q p := Bool.or_comm _ _
theorem any_congr' {α : Type} {p q : α → Bool} {l : List α} (h : ∀ x ∈ l, p x = q x) : l.any p = l.any q := by
  induction l with
  | nil => rfl
  | cons x l ih => rw [List.any_cons, List.any_cons, h x (List.mem_cons_self ..), ih fun y hy => h y (List.mem_cons_of_mem _ hy)]
/-- The prefixes of the edges that are not planned. -/
def fixed (l : List TEdge) : List TPfx := (l.filter fun e => !e.planned).map TEdge.pfx
theorem fixed_meet {l : List TEdge} {p : TPfx} (hp : PfxIn p) (hl : ∀ e ∈ l, PfxIn e.pfx) : (fixed l).any (rmeet p) = l.any fun e => !e.planned && pover e.pfx p := by
  unfold fixed
  rw [List.any_map, List.any_filter]
  refine any_congr' fun e he => ?_
  show (!e.planned && rmeet p e.pfx) = _
  rw [meet_eq p e.pfx hp (hl e he), pover_comm]
theorem list_meet {l : List TPfx} {p : TPfx} (hp : PfxIn p) (hl : ∀ e ∈ l, PfxIn e) : l.any (rmeet p) = l.any fun q => pover q p :=
  any_congr' fun e he => by rw [meet_eq p e hp (hl e he), pover_comm]
end Go.Proofs.YtdehdgbdcfkpbaaGreatDoor
