/-
  Plain laws of numbers and addresses: both ways of reading them agree.
-/
import Derived.Test.YtdehdgbdcfkpbaaGreatDoorKP1
import Derived.Test.YtdehdgbdcfkpbaaGreatDoorKB8
namespace Go.Proofs.YtdehdgbdcfkpbaaGreatDoor
open Go Go.Pw

/-! ### digits -/
def rdig (s : Str) : Bool := !(s.any dbad) && (!(s == []) && (((s.length : Int) == 1) || (((s.headD 0).toNat : Int) != 48)))
theorem digs_fin : ∀ n : Fin 256, digs.contains (UInt8.ofNat n.val) = !(dbad (UInt8.ofNat n.val)) := by decide +kernel
theorem digs_bad (c : UInt8) : digs.contains c = !(dbad c) := by
  have := digs_fin ⟨c.toNat, c.toNat_lt⟩
  simpa using this
theorem dropWhile_nil {p : UInt8 → Bool} {l : Str} : l.dropWhile p = [] ↔ l.all p = true := by
  induction l with
  | nil => simp
  | cons c l ih =>
    rw [List.dropWhile_cons, List.all_cons]
    cases h : p c <;> simp [ih]
theorem trim_nil (s : Str) : (Lib.trimS s digs == []) = !(s.any dbad) := by
  have h1 : s.all (digs.contains ·) = !(s.any dbad) := by
    rw [List.all_eq_not_any_not]; congr 2; funext c; rw [digs_bad]; simp
  rw [← h1, Bool.eq_iff_iff, beq_iff_eq]
  unfold Lib.trimS Lib.trimLeftS Lib.trimRightS
  constructor
  · intro h
    have h2 := dropWhile_nil.1 h
    rw [List.all_reverse] at h2
    have h3 : s.reverse.dropWhile (digs.contains ·) = [] := by
      cases h4 : s.reverse.dropWhile (digs.contains ·) with
      | nil => rfl
      | cons c l =>
        have h5 : (s.reverse.dropWhile (digs.contains ·)).head? = some c := by rw [h4]; rfl
        have h6 := List.head?_dropWhile_not (digs.contains ·) s.reverse
        rw [h4] at h6 h2
        simp only [List.head?_cons, List.all_cons, Bool.and_eq_true] at h6 h2
        rw [h2.1] at h6
        simp at h6
    have := dropWhile_nil.1 h3
    rwa [List.all_reverse] at this
  · intro h
    have h3 : s.reverse.dropWhile (digs.contains ·) = [] := dropWhile_nil.2 (by rw [List.all_reverse]; exact h)
    rw [h3]; rfl
theorem digitsB_eq (s : Str) : digitsB s = rdig s := by
  unfold digitsB rdig
  rw [trim_nil, Bool.and_comm]
  congr 1
  cases s with
  | nil => rfl
  | cons c l =>
    cases l with
    | nil =>
      by_cases h : c = 48
      · subst h; rfl
      · have : ¬ c.toNat = 48 := fun e => h (UInt8.toNat_inj.1 e)
        simp; omega
    | cons d l =>
      have h1 : ((c :: d :: l) == ([48] : Str)) = false := by simp
      have h2 : (((c :: d :: l).length : Int) == 1) = false := by simp; omega
      rw [h1, h2]
/-! ### Read -/
def dvalF (n : Int) (s : Str) : Int := s.foldl (fun n c => 10 * n + ((c.toNat : Int) - 48)) n
def rbad (most n : Int) (c : UInt8) : Bool := (dbad c || decide (n > (most - ((c.toNat : Int) - 48)).tdiv 10)) || decide (most < ((c.toNat : Int) - 48))
def rrun (most : Int) : Str → Int → Option Int
  | [], n => some n
  | c :: s, n => if rbad most n c = true then none else rrun most s (10 * n + ((c.toNat : Int) - 48))
def rhead (s : Str) : Bool := (s == []) || (decide ((s.length : Int) > 1) && (((s.headD 0).toNat : Int) == 48))
def readO (o : Option Int) : Int × Bool := match o with | some v => (v, true) | none => (0, false)
def rread (s : Str) (most : Int) : Int × Bool := if rhead s then (0, false) else readO (rrun most s 0)
theorem dbad_ok {c : UInt8} (h : dbad c = false) : 48 ≤ c.toNat ∧ c.toNat ≤ 57 := by
  simp only [dbad, Bool.or_eq_false_iff, decide_eq_false_iff_not] at h
  omega
theorem tdiv10 {a : Int} (h : 0 ≤ a) : a.tdiv 10 = a / 10 := Int.tdiv_eq_ediv_of_nonneg h
theorem rbad_ok {most n : Int} {c : UInt8} (_hn : 0 ≤ n) (h : rbad most n c = false) : dbad c = false ∧ 10 * n + ((c.toNat : Int) - 48) ≤ most := by
  simp only [rbad, Bool.or_eq_false_iff, decide_eq_false_iff_not] at h
  obtain ⟨⟨h1, h2⟩, h3⟩ := h
  have h4 := dbad_ok h1
  rw [tdiv10 (by omega)] at h2
  exact ⟨h1, by omega⟩
theorem rbad_no {most n : Int} {c : UInt8} (hd : dbad c = false) (h : 10 * n + ((c.toNat : Int) - 48) ≤ most) (hn : 0 ≤ n) : rbad most n c = false := by
  have h4 := dbad_ok hd
  simp only [rbad, Bool.or_eq_false_iff, decide_eq_false_iff_not]
  rw [tdiv10 (by omega)]
  exact ⟨⟨hd, by omega⟩, by omega⟩
theorem dvalF_ge : ∀ (s : Str) (n : Int), 0 ≤ n → s.any dbad = false → n ≤ dvalF n s
  | [], n, _, _ => Int.le_refl _
  | c :: s, n, hn, h => by
    rw [List.any_cons, Bool.or_eq_false_iff] at h
    have h4 := dbad_ok h.1
    have := dvalF_ge s (10 * n + ((c.toNat : Int) - 48)) (by omega) h.2
    show n ≤ dvalF (10 * n + ((c.toNat : Int) - 48)) s
    omega
theorem dvalF_nil (n : Int) : dvalF n [] = n := by unfold dvalF; exact List.foldl_nil
theorem rrun_eq (most : Int) (s : Str) : ∀ (n : Int), 0 ≤ n → n ≤ most → rrun most s n = if (!(s.any dbad) && decide (dvalF n s ≤ most)) = true then some (dvalF n s) else none := by
  induction s with
  | nil =>
    intro n _ h
    rw [rrun, dvalF_nil, List.any_nil, if_pos (by rw [decide_eq_true h]; rfl)]
  | cons c s ih =>
    intro n hn h
    rw [rrun, List.any_cons]
    have e : dvalF n (c :: s) = dvalF (10 * n + ((c.toNat : Int) - 48)) s := rfl
    rw [e]
    cases hd : dbad c with
    | true => simp [rbad, hd]
    | false =>
      have h4 := dbad_ok hd
      cases hb : rbad most n c with
      | false =>
        have h5 := rbad_ok hn hb
        rw [if_neg Bool.false_ne_true, ih _ (by omega) h5.2, Bool.false_or]
      | true =>
        rw [if_pos rfl, if_neg]
        intro hh
        simp only [Bool.false_or, Bool.and_eq_true, Bool.not_eq_true', decide_eq_true_eq] at hh
        have h6 := dvalF_ge s (10 * n + ((c.toNat : Int) - 48)) (by omega) hh.1
        have h7 := rbad_no (most := most) hd (by omega) hn
        rw [h7] at hb; cases hb
theorem dval_F : ∀ (s : Str) (n : Nat), s.any dbad = false → ((s.foldl (fun n c => 10 * n + (c.toNat - 48)) n : Nat) : Int) = dvalF n s
  | [], n, _ => by simp [dvalF]
  | c :: s, n, h => by
    rw [List.any_cons, Bool.or_eq_false_iff] at h
    have h4 := dbad_ok h.1
    have h5 := dval_F s (10 * n + (c.toNat - 48)) h.2
    rw [List.foldl_cons, h5]
    unfold dvalF
    rw [List.foldl_cons]
    congr 1
    omega
theorem rread_eq (s : Str) (most : Int) (h0 : 0 ≤ most) : rread s most = if (!(rhead s) && (!(s.any dbad) && decide ((dval s : Int) ≤ most))) = true then ((dval s : Int), true) else (0, false) := by
  unfold rread
  rw [rrun_eq most s 0 (Int.le_refl _) h0]
  cases h1 : rhead s with
  | true => simp
  | false =>
    cases h2 : s.any dbad with
    | true => simp [readO]
    | false =>
      have h3 : (dval s : Int) = dvalF 0 s := dval_F s 0 h2
      rw [← h3]
      cases h4 : decide ((dval s : Int) ≤ most) <;> simp [readO]
theorem dvalF_pow : ∀ (s : Str) (n : Int), 0 ≤ n → s.any dbad = false → n * 10 ^ s.length ≤ dvalF n s
  | [], n, _, _ => by simp [dvalF]
  | c :: s, n, hn, h => by
    rw [List.any_cons, Bool.or_eq_false_iff] at h
    have h4 := dbad_ok h.1
    have h5 := dvalF_pow s (10 * n + ((c.toNat : Int) - 48)) (by omega) h.2
    show n * 10 ^ (s.length + 1) ≤ dvalF (10 * n + ((c.toNat : Int) - 48)) s
    refine Int.le_trans ?_ h5
    rw [Int.pow_succ, Int.mul_comm (10 ^ s.length : Int) 10, ← Int.mul_assoc]
    exact Int.mul_le_mul_of_nonneg_right (by omega) (Int.pow_nonneg (by decide))
theorem long_big {s : Str} (hl : 19 < s.length) (hh : ¬ (s.headD 0).toNat = 48) (hd : s.any dbad = false) : 9223372036854775807 < (dval s : Int) := by
  cases s with
  | nil => simp at hl
  | cons c s =>
    have h3 : (dval (c :: s) : Int) = dvalF 0 (c :: s) := dval_F _ 0 hd
    rw [List.any_cons, Bool.or_eq_false_iff] at hd
    have h4 := dbad_ok hd.1
    have h5 : ¬ c.toNat = 48 := hh
    have h6 := dvalF_pow s ((c.toNat : Int) - 48) (by omega) hd.2
    have h7 : (10 : Int) ^ 19 ≤ 10 ^ s.length := by
      have : (10 : Nat) ^ 19 ≤ 10 ^ s.length := Nat.pow_le_pow_right (by decide) (by simp at hl; omega)
      exact_mod_cast this
    have e : dvalF 0 (c :: s) = dvalF ((c.toNat : Int) - 48) s := by
      show dvalF (10 * 0 + ((c.toNat : Int) - 48)) s = _
      rw [Int.mul_zero, Int.zero_add]
    rw [h3, e]
    have h8 : (1 : Int) * 10 ^ s.length ≤ ((c.toNat : Int) - 48) * 10 ^ s.length := Int.mul_le_mul_of_nonneg_right (by omega) (Int.pow_nonneg (by decide))
    have h9 : (9223372036854775807 : Int) < 10 ^ 19 := by decide
    omega
/-- The reference's Number. -/
theorem number_eq (s : Str) (least most : Int) (hm : most ≤ 9223372036854775807) : number s least most =
    if !(rdig s) || decide (most < 0) then (0, false) else if !(rread s most).2 || decide ((rread s most).1 < least) then (0, false) else ((rread s most).1, true) := by
  unfold number
  by_cases h0 : most < 0
  · have : nhead s most = true := by simp [nhead, h0]
    simp [this, h0]
  have hd0 : decide (most < 0) = false := by simpa using h0
  rw [rread_eq s most (by omega), hd0, Bool.or_false]
  have hnh : nhead s most = (rhead s || decide ((s.length : Int) > 19)) := by
    simp only [nhead, rhead, hd0, Bool.or_false]
    cases s == [] <;> cases decide ((s.length : Int) > 19) <;> simp
  have hrd : rdig s = (!(s.any dbad) && !(rhead s)) := by
    simp only [rdig, rhead]
    cases s with
    | nil => rfl
    | cons c l =>
      congr 1
      cases l with
      | nil => simp
      | cons d l =>
        have e1 : (((c :: d :: l).length : Int) == 1) = false := by simp; omega
        have e2 : decide (((c :: d :: l).length : Int) > 1) = true := by simp; omega
        rw [e1, e2]; rfl
  rw [hnh, hrd]
  cases h1 : rhead s with
  | true => simp
  | false =>
    cases h2 : s.any dbad with
    | true => simp
    | false =>
      by_cases h3 : (s.length : Int) > 19
      · have h4 : 9223372036854775807 < (dval s : Int) := by
          refine long_big (by omega) ?_ h2
          simp only [rhead, Bool.or_eq_false_iff, Bool.and_eq_false_iff, decide_eq_false_iff_not] at h1
          rcases h1.2 with h5 | h5
          · omega
          · intro e
            rw [e] at h5
            exact absurd h5 (by decide)
        have h5 : decide ((dval s : Int) ≤ most) = false := by simp; omega
        simp [h3, h5]
      · have h4 : decide ((s.length : Int) > 19) = false := by simpa using h3
        rw [h4]
        by_cases h5 : (dval s : Int) ≤ most
        · have : ¬ (dval s : Int) > most := by omega
          simp [h5, this]
        · have : (dval s : Int) > most := by omega
          simp [h5, this]
end Go.Proofs.YtdehdgbdcfkpbaaGreatDoor
