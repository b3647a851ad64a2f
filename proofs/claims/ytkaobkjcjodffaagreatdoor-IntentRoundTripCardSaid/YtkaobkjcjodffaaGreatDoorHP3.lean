/-
 Plain laws of addresses and prefixes in texts: both ways of reading them agree.
 Plain laws of prefixes: both ways of saying that one covers another agree.
 The reference's numbers, addresses, prefixes and lines as texts.
-/
import Derived.Test.YtkaobkjcjodffaaGreatDoorHB8
import Derived.Test.YtkaobkjcjodffaaGreatDoorHB6
import Derived.Test.YtkaobkjcjodffaaGreatDoorGPwMap
import Derived.Lib.ItoaNum
import Derived.Test.YtkaobkjcjodffaaGreatDoorGPwGlob
set_option maxHeartbeats 20000000
set_option maxRecDepth 100000
namespace Go.Proofs.YtkaobkjcjodffaaGreatDoor
open Go Go.Pw
section
def okOct (s : Str) : Bool := (rread s 255).2
def vOct (s : Str) : Int := (rread s 255).1
def fin4 : List Str → List Int → Nat → Option Int
 | [], p, n => if n = 4 then some (joinA p) else none
 | x :: xs, p, n => if n < 4 ∧ okOct x = true then fin4 xs (p.set n (vOct x)) (n + 1) else none
structure Cur (p : List Int) (n d : Nat) (cur : Str) : Prop where
 len : p.length = 4
 n3 : n ≤ 3
 d : d = cur.length
 digs : cur.any dbad = false
 val : p.getD n 0 = (dval cur : Int)
 le : (dval cur : Int) ≤ 255
 head : cur.length ≤ 1 ∨ ¬ (cur.headD 0).toNat = 48
 rest : ∀ j, n < j → p.getD j 0 = 0
theorem okOct_eq (s : Str) : okOct s = (!(rhead s) && (!(s.any dbad) && decide ((dval s : Int) ≤ 255))) := by
 unfold okOct
 rw [rread_eq s 255 (by decide)]
 split
 ·rename_i h; rw [h]
 ·rename_i h; rw [Bool.eq_false_iff.2 h]
theorem vOct_eq {s : Str} (h : okOct s = true) : vOct s = (dval s : Int) := by
 have h' := h
 rw [okOct_eq] at h'
 unfold vOct
 rw [rread_eq s 255 (by decide), if_pos h']
theorem Cur.ok {p : List Int} {n d : Nat} {cur : Str} (h : Cur p n d cur) : okOct cur = decide (0 < d) := by
 rw [okOct_eq, h.digs, decide_eq_true h.le, h.d]
 cases cur with
 | nil => rfl
 | cons c l =>
  have : rhead (c :: l) = false := by
   rcases h.head with h1 | h1
   ·have : l = [] := by cases l with | nil => rfl | cons _ _ => simp at h1
    subst this; rfl
   ·have h2 : (((List.headD (c :: l) 0).toNat : Int) == 48) = false := by simp at h1 ⊢; omega
    simp only [rhead, h2, Bool.and_false, Bool.or_false]; rfl
  rw [this]; simp
theorem set_same {p : List Int} {n : Nat} (h : n < p.length) : p.set n (p.getD n 0) = p := by
 rw [List.getD, List.getElem?_eq_getElem h]; simp
theorem bad_first {p : List Int} {n : Nat} {s cur : Str} (h : ∀ q, okOct (cur ++ q) = false) : fin4 (partsA 46 s cur) p n = none := by
 obtain ⟨q, qs, -, h2⟩ := partsA_pre 46 s cur
 rw [h2, fin4, if_neg]
 rw [h q]; simp
theorem dval_F0 {s : Str} (h : s.any dbad = false) : (dval s : Int) = dvalF 0 s := dval_F s 0 h
theorem dvalF_app (a b : Str) (n : Int) : dvalF n (a ++ b) = dvalF (dvalF n a) b := by unfold dvalF; rw [List.foldl_append]
theorem dval_pos_head {c : UInt8} {l : Str} (hd : (c :: l).any dbad = false) (h : ¬ c.toNat = 48) : 0 < (dval (c :: l) : Int) := by
 rw [dval_F0 hd]
 rw [List.any_cons, Bool.or_eq_false_iff] at hd
 have h4 := dbad_ok hd.1
 have := dvalF_ge l (10 * 0 + ((c.toNat : Int) - 48)) (by omega) hd.2
 show 0 < dvalF (10 * 0 + ((c.toNat : Int) - 48)) l
 omega
theorem aRun_fin : ∀ (s : Str) (p : List Int) (n d : Nat) (cur : Str), Cur p n d cur → aRun s p n d = fin4 (partsA 46 s cur) p n
 | [], p, n, d, cur, h => by
  rw [aRun, partsA, fin4, fin4, h.ok]
  have hn := h.n3
  have hl := h.len
  by_cases h1 : n ≠ 3 ∨ d = 0
  ·rw [if_pos h1]
   by_cases hd : d = 0
   ·subst hd; simp
   ·have : n ≠ 3 := by omega
    have h4 : ¬ n + 1 = 4 := by omega
    rw [if_neg h4]; simp
  ·rw [if_neg h1]
   have hd : 0 < d := by omega
   rw [if_pos ⟨by omega, by simpa using hd⟩, if_pos (by omega), vOct_eq (by rw [h.ok]; simpa using hd), ← h.val, set_same (by omega)]
 | c :: s, p, n, d, cur, h => by
  have hn := h.n3
  have hl := h.len
  rw [aRun]
  by_cases hc : c.toNat = 46
  ·have hc' : c = 46 := UInt8.toNat_inj.1 hc
   rw [if_pos hc, partsA, show (c == 46) = true by simp [hc']]
   dsimp only
   rw [fin4, h.ok]
   by_cases h1 : d = 0 ∨ n = 3
   ·rw [if_pos h1]
    by_cases hd : d = 0
    ·subst hd; simp
    ·have hn3 : n = 3 := by omega
     rw [if_pos ⟨by omega, by simp; omega⟩]
     obtain ⟨q, qs, h2, h3⟩ := partsA_pre 46 s []
     rw [h3, fin4, if_neg (by omega)]
   ·rw [if_neg h1, if_pos ⟨by omega, by simp; omega⟩, vOct_eq (by rw [h.ok]; simp; omega), ← h.val, set_same (by omega)]
    exact aRun_fin s p (n + 1) 0 [] ⟨hl, by omega, rfl, rfl, by rw [h.rest (n + 1) (by omega)]; rfl, by decide, .inl (Nat.zero_le _), fun j hj => h.rest j (by omega)⟩
  ·have hc' : (c == 46) = false := by simpa using fun e : c = 46 => hc (by rw [e]; rfl)
   rw [if_neg hc, partsA, hc']
   dsimp only
   by_cases h1 : c.toNat < 48 ∨ c.toNat > 57
   ·rw [if_pos h1, bad_first]
    intro q
    have hb : dbad c = true := by simp only [dbad, Bool.or_eq_true, decide_eq_true_eq]; omega
    rw [okOct_eq]; simp [hb]
   have hb : dbad c = false := by simp only [dbad, Bool.or_eq_false_iff, decide_eq_false_iff_not]; omega
   rw [if_neg h1]
   by_cases h2 : 0 < d ∧ p.getD n 0 = 0
   ·rw [if_pos h2, bad_first]
    intro q
    have hcur := h.digs
    have hval := h.val
    have hdl := h.d
    cases cur with
    | nil => simp at hdl; omega
    | cons x l =>
     by_cases hx : x.toNat = 48
     ·rw [okOct_eq]
      have : rhead (x :: l ++ [c] ++ q) = true := by
       have e1 : decide (((x :: l ++ [c] ++ q).length : Int) > 1) = true := by simp; omega
       have e2 : (((List.headD (x :: l ++ [c] ++ q) 0).toNat : Int) == 48) = true := by simp [hx]
       simp only [rhead, e1, e2]; simp
      rw [this]; rfl
     ·have := dval_pos_head hcur hx
      omega
   rw [if_neg h2]
   have hdig : (cur ++ [c]).any dbad = false := by rw [List.any_append, h.digs]; simp [hb]
   have hsn : (dval (cur ++ [c]) : Int) = 10 * (dval cur : Int) + ((c.toNat : Int) - 48) := by rw [dval_snoc]; omega
   by_cases h3 : 10 * p.getD n 0 + ((c.toNat : Int) - 48) > 255
   ·rw [if_pos h3, bad_first]
    intro q
    rw [okOct_eq]
    cases hq : ((cur ++ [c]) ++ q).any dbad with
    | true => simp
    | false =>
     have h4 : (255 : Int) < (dval ((cur ++ [c]) ++ q) : Int) := by
      rw [dval_F0 hq, dvalF_app, ← dval_F0 hdig]
      rw [List.any_append, Bool.or_eq_false_iff] at hq
      have := dvalF_ge q (dval (cur ++ [c]) : Int) (by omega) hq.2
      rw [h.val] at h3
      omega
     have : decide ((dval ((cur ++ [c]) ++ q) : Int) ≤ 255) = false := decide_eq_false (by omega)
     rw [this]; simp
   rw [if_neg h3]
   have hset : (p.set n (10 * p.getD n 0 + ((c.toNat : Int) - 48))).getD n 0 = 10 * p.getD n 0 + ((c.toNat : Int) - 48) := by
    rw [List.getD, List.getElem?_set_self (by omega)]; rfl
   have hfin : ∀ (ps : List Str) (v : Int), fin4 ps (p.set n v) n = fin4 ps p n ∨ ps = [] := by
    intro ps v
    cases ps with
    | nil => exact .inr rfl
    | cons x xs => left; rw [fin4, fin4, List.set_set]
   rw [aRun_fin s _ n (d + 1) (cur ++ [c]) ⟨by simp [hl], hn, by simp [h.d], hdig, by rw [hset, h.val, hsn], by rw [hsn, ← h.val]; omega, ?_, fun j hj => ?_⟩]
   ·rcases hfin (partsA 46 s (cur ++ [c])) (10 * p.getD n 0 + ((c.toNat : Int) - 48)) with h4 | h4
    ·exact h4
    ·obtain ⟨q, qs, -, h5⟩ := partsA_pre 46 s (cur ++ [c])
     rw [h5] at h4; cases h4
   ·cases cur with
    | nil => left; simp
    | cons x l =>
     right
     intro hx
     have hx' : x.toNat = 48 := hx
     rcases h.head with h5 | h5
     ·have hl0 : l = [] := by cases l with | nil => rfl | cons _ _ => simp at h5
      subst hl0
      refine h2 ⟨by rw [h.d]; simp, ?_⟩
      rw [h.val]
      show ((10 * 0 + (x.toNat - 48) : Nat) : Int) = 0
      omega
     ·exact h5 hx'
   ·have h6 := h.rest j hj
    rw [List.getD, List.getElem?_set_ne (by omega)]
    exact h6
theorem orB_add (a b k : Nat) (ha : a * 2 ^ k < 2 ^ 32) (hb : b < 2 ^ k) (hk : k ≤ 32) (hab : a * 2 ^ k + b < 2 ^ 32) : orB ((a * 2 ^ k : Nat) : Int) (b : Int) = ((a * 2 ^ k + b : Nat) : Int) := by
 unfold orB
 have hb32 : b < 2 ^ 32 := Nat.lt_of_lt_of_le hb (Nat.pow_le_pow_right (by decide) hk)
 rw [BitVec.toNat_or, ofInt_nat, ofInt_nat, Nat.mod_eq_of_lt ha, Nat.mod_eq_of_lt hb32]
 rw [Nat.mul_comm a, ← Nat.two_pow_add_eq_or_of_lt hb]
 rw [Nat.mul_comm] at hab
 exact IntWalk.u32_in _ ⟨by omega, by omega⟩
theorem shlB_nat (a k : Nat) (h : a * 2 ^ k < 2 ^ 32) : shlB (a : Int) k = ((a * 2 ^ k : Nat) : Int) := by
 unfold shlB
 rw [← pow2' k, ← Int.natCast_mul]
 exact IntWalk.u32_in _ ⟨by omega, by omega⟩
where pow2' (k : Nat) : ((2 ^ k : Nat) : Int) = (2 : Int) ^ k := by simp
theorem joinA_eq (a b c d : Nat) (ha : a ≤ 255) (hb : b ≤ 255) (hc : c ≤ 255) (hd : d ≤ 255) : joinA [(a : Int), (b : Int), (c : Int), (d : Int)] = ((((a * 256 + b) * 256 + c) * 256 + d : Nat) : Int) := by
 show orB (orB (orB (shlB (a : Int) 24) (shlB (b : Int) 16)) (shlB (c : Int) 8)) (d : Int) = _
 rw [shlB_nat a 24 (by omega), shlB_nat b 16 (by omega), shlB_nat c 8 (by omega), orB_add a (b * 2 ^ 16) 24 (by omega) (by omega) (by omega) (by omega)]
 rw [show a * 2 ^ 24 + b * 2 ^ 16 = (a * 256 + b) * 2 ^ 16 by omega, orB_add (a * 256 + b) (c * 2 ^ 8) 16 (by omega) (by omega) (by omega) (by omega)]
 rw [show (a * 256 + b) * 2 ^ 16 + c * 2 ^ 8 = ((a * 256 + b) * 256 + c) * 2 ^ 8 by omega, orB_add ((a * 256 + b) * 256 + c) d 8 (by omega) (by omega) (by omega) (by omega)]
theorem fin4_len : ∀ (xs : List Str) (p : List Int) (n : Nat), ¬ xs.length + n = 4 → fin4 xs p n = none
 | [], p, n, h => by rw [fin4, if_neg (by simpa using h)]
 | x :: xs, p, n, h => by
  rw [fin4]
  split
  ·exact fin4_len xs _ _ (by simp at h; omega)
  ·rfl
def sum4 : List Str → Int → Option Int
 | [], a => some a
 | x :: xs, a => if okOct x = true then sum4 xs (a * 256 + vOct x) else none
def raddr (s : Str) : Int × Bool := if (parts 46 s).length = 4 then addrO (sum4 (parts 46 s) 0) else (0, false)
theorem vOct_nat (s : Str) : ∃ v : Nat, v ≤ 255 ∧ vOct s = (v : Int) := by
 unfold vOct
 rw [rread_eq s 255 (by decide)]
 split
 ·rename_i h
  simp only [Bool.and_eq_true, decide_eq_true_eq] at h
  exact ⟨dval s, by omega, rfl⟩
 ·exact ⟨0, by omega, rfl⟩
theorem addr_eq (s : Str) : addr s = raddr s := by
 unfold addr raddr
 rw [aRun_fin s [0, 0, 0, 0] 0 0 [] ⟨rfl, by omega, rfl, rfl, rfl, by decide, .inl (Nat.zero_le _), fun j hj => by
  match j, hj with
  | 1, _ => rfl
  | 2, _ => rfl
  | 3, _ => rfl
  | j + 4, _ => rfl⟩]
 show addrO (fin4 (parts 46 s) [0, 0, 0, 0] 0) = _
 generalize parts 46 s = ps
 by_cases h : ps.length = 4
 ·rw [if_pos h]
  congr 1
  match ps, h with
  | [a, b, c, d], _ =>
   simp only [fin4, sum4]
   obtain ⟨va, ha, ea⟩ := vOct_nat a
   obtain ⟨vb, hb, eb⟩ := vOct_nat b
   obtain ⟨vc, hc, ec⟩ := vOct_nat c
   obtain ⟨vd, hd, ed⟩ := vOct_nat d
   rw [ea, eb, ec, ed]
   have hj := joinA_eq va vb vc vd ha hb hc hd
   cases h1 : okOct a <;> cases h2 : okOct b <;> cases h3 : okOct c <;> cases h4 : okOct d <;> first | (simp; done) | skip
   rw [if_pos ⟨by decide, rfl⟩, if_pos ⟨by decide, rfl⟩, if_pos ⟨by decide, rfl⟩, if_pos ⟨by decide, rfl⟩]
   simp only [List.set, if_true, hj]
   refine congrArg some ?_
   omega
 ·rw [if_neg h, fin4_len ps _ 0 (by simpa using h)]; rfl
theorem sum4_lt : ∀ (xs : List Str) (a : Int) (k : Nat), 0 ≤ a → a < 256 ^ k → ∀ v, sum4 xs a = some v → 0 ≤ v ∧ v < 256 ^ (k + xs.length)
 | [], a, k, h0, h1, v, h => by cases h; exact ⟨h0, h1⟩
 | x :: xs, a, k, h0, h1, v, h => by
  rw [sum4] at h
  split at h
  ·obtain ⟨w, hw, e⟩ := vOct_nat x
   have := sum4_lt xs (a * 256 + vOct x) (k + 1) (by omega) (by rw [Int.pow_succ]; omega) v h
   rw [show k + (x :: xs).length = k + 1 + xs.length by simp; omega]
   exact this
  ·cases h
theorem addr_lt (s : Str) : 0 ≤ (addr s).1 ∧ (addr s).1 < 4294967296 := by
 rw [addr_eq]
 unfold raddr
 split
 ·rename_i h
  cases h2 : sum4 (parts 46 s) 0 with
  | none => exact ⟨by decide, by decide⟩
  | some v =>
   have := sum4_lt _ 0 0 (by decide) (by decide) v h2
   rw [h] at this
   exact this
 ·exact ⟨by decide, by decide⟩
def rpfx (s : Str) : TPfx × Bool :=
  if (parts 47 s).length = 2 then
    (if !(addr ((parts 47 s).getD 0 [])).2 || !(rread ((parts 47 s).getD 1 []) 32).2 || !rvalid ⟨(addr ((parts 47 s).getD 0 [])).1, (rread ((parts 47 s).getD 1 []) 32).1⟩ then (⟨0, 0⟩, false)
     else (⟨(addr ((parts 47 s).getD 0 [])).1, (rread ((parts 47 s).getD 1 []) 32).1⟩, true))
  else (⟨0, 0⟩, false)
theorem slash_bad {b : Str} (h : 47 ∈ b) : b.any dbad = true := List.any_eq_true.2 ⟨47, h, by decide⟩
theorem big3 {b : Str} (hl : 2 < b.length) (hd : b.any dbad = false) (hh : ¬ (b.headD 0).toNat = 48) : 32 < (dval b : Int) := by
 rw [dval_F0 hd]
 cases b with
 | nil => simp at hl
 | cons c s =>
  rw [List.any_cons, Bool.or_eq_false_iff] at hd
  have h4 := dbad_ok hd.1
  have h5 : ¬ c.toNat = 48 := hh
  have h6 := dvalF_pow s (10 * 0 + ((c.toNat : Int) - 48)) (by omega) hd.2
  have h7 : (10 : Int) ^ 2 ≤ 10 ^ s.length := by
   have : (10 : Nat) ^ 2 ≤ 10 ^ s.length := Nat.pow_le_pow_right (by decide) (by simp at hl; omega)
   exact_mod_cast this
  show 32 < dvalF (10 * 0 + ((c.toNat : Int) - 48)) s
  have h8 : (1 : Int) * 10 ^ s.length ≤ (10 * 0 + ((c.toNat : Int) - 48)) * 10 ^ s.length := Int.mul_le_mul_of_nonneg_right (by omega) (Int.pow_nonneg (by decide))
  have h9 : (10 : Int) ^ 2 = 100 := by decide
  omega
theorem pfx_eq (s : Str) : pfxParse s = rpfx s := by
 unfold pfxParse rpfx
 rcases index_one 47 s with ⟨h1, h2⟩ | ⟨a, b, h1, h2, h3⟩
 ·have e1 : Lib.cut s [47] = (s, [], false) := by unfold Lib.cut; rw [h2, if_neg (by decide)]
  have e2 : parts 47 s = [s] := by unfold parts; rw [parts_none h1]; rfl
  rw [e1, e2]
  simp [pfxP2, pphead]
 ·have e1 : Lib.cut s [47] = (a, b, true) := by
   unfold Lib.cut
   rw [h3, if_pos (by omega), h1]
   simp
  have e2 : parts 47 s = a :: parts 47 b := by rw [h1]; exact parts_some h2 []
  rw [e1, e2]
  show pfxP2 a b true = _
  by_cases hb : (47 : UInt8) ∈ b
  ·have h4 : ¬ (a :: parts 47 b).length = 2 := by
    rw [List.length_cons, parts_len]
    have := List.count_pos_iff.2 hb
    omega
   rw [if_neg h4]
   unfold pfxP2
   split
   ·rfl
   ·rw [if_pos (slash_bad hb)]
  ·have e3 : parts 47 b = [b] := by unfold parts; rw [parts_none hb]; rfl
   rw [e3, if_pos (show ([a, b] : List Str).length = 2 from rfl)]
   show pfxP2 a b true = if !(addr a).2 || !(rread b 32).2 || !rvalid ⟨(addr a).1, (rread b 32).1⟩ then (⟨0, 0⟩, false) else (⟨(addr a).1, (rread b 32).1⟩, true)
   have hal := addr_lt a
   unfold pfxP2 pphead
   generalize addr a = A at hal
   obtain ⟨av, ao⟩ := A
   dsimp only at hal ⊢
   rw [rread_eq b 32 (by decide)]
   cases ao with
   | false => simp
   | true =>
    cases hd : b.any dbad with
    | true => simp
    | false =>
     cases hz : rhead b with
     | true =>
      have : (((((!true || !true) || ((b.length : Int) == 0)) || decide ((b.length : Int) > 2)) || (((b.length : Int) == 2) && (((b.headD 0).toNat : Int) == 48)))) = true := by
       simp only [rhead, Bool.or_eq_true, Bool.and_eq_true, decide_eq_true_eq] at hz
       rcases hz with h5 | ⟨h5, h6⟩
       ·have : b = [] := by simpa using h5
        subst this; rfl
       ·rw [h6]
        by_cases h7 : (b.length : Int) > 2
        ·simp [h7]
        ·have : (b.length : Int) = 2 := by omega
         simp [this]
      rw [if_pos this]; simp
     | false =>
      have hz' := hz
      simp only [rhead, Bool.or_eq_false_iff] at hz'
      have h0 : ((b.length : Int) == 0) = false := by
       cases b with
       | nil => simp at hz'
       | cons c l => simp; omega
      rw [h0]
      by_cases h7 : (b.length : Int) > 2
      ·have hh : ¬ (b.headD 0).toNat = 48 := by
        intro e
        have h8 := hz'.2
        rw [e, decide_eq_true (by omega)] at h8
        simp at h8
       have := big3 (by omega) hd hh
       have h9 : decide ((dval b : Int) ≤ 32) = false := decide_eq_false (by omega)
       rw [decide_eq_true h7, h9]; simp
      ·have h8 : (((b.length : Int) == 2) && (((b.headD 0).toNat : Int) == 48)) = false := by
        by_cases h9 : (b.length : Int) = 2
        ·have h10 := hz'.2
         rw [decide_eq_true (show (b.length : Int) > 1 by omega), Bool.true_and] at h10
         rw [h10, Bool.and_false]
        ·rw [show ((b.length : Int) == 2) = false by simpa using h9]; rfl
       rw [decide_eq_false h7, h8]
       by_cases h9 : (dval b : Int) ≤ 32
       ·rw [decide_eq_true h9, valid_eq _ hal]
        simp
       ·have h10 : pvalid ⟨av, (dval b : Int)⟩ = false := by
         rw [Bool.eq_false_iff]
         intro e
         have := (pvalid_bits e).2
         exact h9 this
        rw [decide_eq_false h9, h10]; simp
variable {Gl : Glob}
attribute [local irreducible] PW PWL OpP PCalls PWO
abbrev Caps := Nat × Nat × Nat × Nat
structure WOk (w : List Str) : Prop where
 len : Small w
 each : ∀ x ∈ w, x.length < 4294967281
theorem WOk.at {w : List Str} (h : WOk w) (i : Nat) : (w.getD i []).length < 4294967281 := by
 rw [List.getD]
 cases hx : w[i]? with
 | none => simp
 | some x => exact h.each x (List.mem_of_getElem? hx)
structure TOk (t : Topo) : Prop where
 devs : Small t.devs
 links : Small t.links
 edges : Small t.edges
 pools : Small t.pools
def PfxIn (p : TPfx) : Prop := 0 ≤ p.addr ∧ p.addr < 4294967296
def someBits : List Int := [32, 31, 24, 25, 8, 1, 0, 16, 30, 23]
theorem subnets_in {p : TPfx} (h : p ∈ subnets) : PfxIn p := by
 have : ∀ p ∈ subnets, 0 ≤ p.addr ∧ p.addr < 4294967296 := by decide
 exact this p h
def mTopo (n : Nat) (t : Topo) (c : Caps) : List PV := [.msl 5 n 0 (t.devs.map eDev).length c.1, .msl 3 (n + 1) 0 (t.links.map eLink).length c.2.1, .msl 6 (n + 2) 0 (t.edges.map eEdge).length c.2.2.1, .msl 2 (n + 3) 0 (t.pools.map ePfx).length c.2.2.2, .int .i64 t.tol]
def aTopo (t : Topo) (c : Caps) : List PObj := [.arr 5 (t.devs.map eDev) c.1, .arr 3 (t.links.map eLink) c.2.1, .arr 6 (t.edges.map eEdge) c.2.2.1, .arr 2 (t.pools.map ePfx) c.2.2.2]
def rcov (p q : TPfx) : Bool := (rvalid q && rcont p (rof q).1) && rcont p (rof q).2
def rmeet (p q : TPfx) : Bool := rcov p q || rcov q p
def fixed (l : List TEdge) : List TPfx := (l.filter fun e => !e.planned).map TEdge.pfx
def let1 (c : UInt8) : Bool := decide ((c.toNat : Int) ≥ 97) && decide ((c.toNat : Int) ≤ 122)
def nmHead (s : Str) : Bool := ((s == []) || decide ((s.length : Int) > 24)) || (s == [97, 110, 121])
theorem vname_eq (s : Str) : vname s = (!(nmHead s) && (let1 (s.headD 0) && s.all vbyte)) := by
 unfold vname vhead
 show (!((nmHead s || decide (((s.headD 0).toNat : Int) < 97)) || decide (((s.headD 0).toNat : Int) > 122)) && _) = _
 have : (!decide (((s.headD 0).toNat : Int) < 97) && !decide (((s.headD 0).toNat : Int) > 122)) = let1 (s.headD 0) := by
  unfold let1
  rw [Bool.eq_iff_iff]
  simp only [Bool.and_eq_true, Bool.not_eq_true', decide_eq_false_iff_not, decide_eq_true_eq]
  omega
 rw [← this]
 generalize nmHead s = a
 generalize decide (((s.headD 0).toNat : Int) < 97) = b
 generalize decide (((s.headD 0).toNat : Int) > 122) = c
 cases a <;> cases b <;> cases c <;> simp
abbrev dec (n : Nat) : Str := Lib.decDigits n
theorem dec_lt {n : Nat} (h : n < 10) : dec n = [UInt8.ofNat (48 + n)] := Lib.decDigits_one h
theorem dec_ge {n : Nat} (h : ¬ n < 10) : dec n = dec (n / 10) ++ [UInt8.ofNat (48 + n % 10)] := by rw [dec, Lib.decDigits, dif_neg h]
theorem dec_len : ∀ (k n : Nat), n < 10 ^ (k + 1) → (dec n).length ≤ k + 1
 | 0, n, h => by rw [dec_lt (by omega)]; simp
 | k + 1, n, h => by
  by_cases h1 : n < 10
  ·rw [dec_lt h1]; simp
  ·rw [dec_ge h1, List.length_append, List.length_singleton]
   have h2 : (10 : Nat) ^ (k + 1 + 1) = 10 ^ (k + 1) * 10 := Nat.pow_succ ..
   have := dec_len k (n / 10) (by omega)
   omega
theorem dig_nat (d : Nat) (h : d < 10) : (48 + (d : Int)) = ((UInt8.ofNat (48 + d)).toNat : Int) := by
 rw [UInt8.toNat_ofNat', Nat.mod_eq_of_lt (by omega)]; omega
theorem dig_wrap (d : Nat) (h : d < 10) : IntKind.u8.wrap (48 + (d : Int)) = ((UInt8.ofNat (48 + d)).toNat : Int) := by
 rw [IntWalk.u8_in _ (by omega), dig_nat d h]
theorem dec_small {n : Nat} (h : n < 10000) : (dec n).length ≤ 4 := dec_len 3 n (by omega)
def oct (a : Nat) (k : Nat) : Nat := a / 2 ^ k % 256
def addrS (a : Nat) : Str := dec (oct a 24) ++ [46] ++ dec (oct a 16) ++ [46] ++ dec (oct a 8) ++ [46] ++ dec (oct a 0)
theorem oct_lt (a k : Nat) : oct a k < 256 := Nat.mod_lt _ (by omega)
theorem fdiv_nat (a k : Nat) : (a : Int).fdiv (2 ^ k) = ((a / 2 ^ k : Nat) : Int) := by
 rw [Int.fdiv_eq_ediv_of_nonneg _ (by have := Nat.two_pow_pos k; exact_mod_cast Nat.zero_le _)]
 norm_cast
def pfxS (p : TPfx) : Str := addrS p.addr.toNat ++ [47] ++ dec p.bits.toNat
theorem addrS_len (a : Nat) : (addrS a).length ≤ 19 := by
 have l0 : (dec (oct a 0)).length ≤ 4 := dec_small (by have := oct_lt a 0; omega)
 have l1 : (dec (oct a 8)).length ≤ 4 := dec_small (by have := oct_lt a 8; omega)
 have l2 : (dec (oct a 16)).length ≤ 4 := dec_small (by have := oct_lt a 16; omega)
 have l3 : (dec (oct a 24)).length ≤ 4 := dec_small (by have := oct_lt a 24; omega)
 simp only [addrS, List.length_append, List.length_singleton]
 omega
def joinW : Nat → List Str → Str
 | _, [] => []
 | 0, w :: ws => w ++ joinW 1 ws
 | k + 1, w :: ws => [32] ++ w ++ joinW (k + 2) ws
def lineS (w : List Str) : Str := joinW 0 w ++ [10]
def textS (l : List TLine) : Str := (l.map fun x => lineS x.words).flatten
instance (s sep : Str) : ConF Tryz.prog Gl 147 [.str s, .str sep] (GM Gl ∧ s.length < 4294967281) (.tup [.str (Lib.cut s sep).1, .str (Lib.cut s sep).2.1, .bool (Lib.cut s sep).2.2]) := ⟨e147, fun h => c128 h.1 s sep h.2⟩
instance (s : Str) : ConF Tryz.prog Gl 68 [.str s] True (.bool (vname s)) := ⟨e68, fun _ => c85 s⟩
instance (s : Str) : ConF Tryz.prog Gl 51 [.str s, .int .u8 45] (s.length < 4294967281) (.sl ((parts 45 s).map .str)) := ⟨e51, fun h => c58 s 45 (by unfold Small; omega)⟩
def dayNames : List Str := [[109, 111, 110], [116, 117, 101], [119, 101, 100], [116, 104, 117], [102, 114, 105], [115, 97, 116], [115, 117, 110]]
def pair2 (s : Str) : Int := if s.length = 2 ∧ 48 ≤ (s.getD 0 0).toNat ∧ (s.getD 0 0).toNat ≤ 57 ∧ 48 ≤ (s.getD 1 0).toNat ∧ (s.getD 1 0).toNat ≤ 57 then 10 * ((s.getD 0 0).toNat - 48) + ((s.getD 1 0).toNat - 48) else -1
theorem c_pair (s : Str) : PFun Tryz.prog Gl 203 [.str s] fun r => r = .int .i64 (pair2 s) := by
 (refine PFun.of hT Tryz.func203 rfl fun B hD => ?_; refine pw_norm rfl ?_)
 (repeat' (first | (refine zDr [[0,1,2,3,4,5,6,7,8,9,10]] ?_; refine zDn ?_) | refine zS ?_ | refine zD ?_ | refine po_both ?_ ?_ | refine pwt_both ?_ ?_ | refine pwt_fork ?_ | refine pwt_lin ?_ | (refine po_test rfl rfl rfl rfl zB ?_ ?_ <;> intro hb <;> first | exact zX | refine zDn ?_) | refine zq5 ?_ | refine zq6 ?_ | (refine zT ?_ ?_ <;> intro h <;> first | exact zX | refine zNq ?_)))
 all_goals (refine ret1 _ rfl ?_ rfl; refine iE ?_; unfold pair2; split <;> omega)
instance (s : Str) : ConF Tryz.prog Gl 203 [.str s] True (.int .i64 (pair2 s)) := ⟨e203, fun _ => c_pair s⟩
theorem c_two (s : Str) : PFun Tryz.prog Gl 193 [.str s] fun r => r = .int .i64 (pair2 s) := by
 (refine PFun.of hT Tryz.func193 rfl fun B hD => ?_; refine pw_norm rfl ?_)
 (repeat' (first | (refine zDr [[0,1,2,3,4,5,6,7,8,9,10]] ?_; refine zDn ?_) | refine zS ?_ | refine zD ?_ | refine po_both ?_ ?_ | refine pwt_both ?_ ?_ | refine pwt_fork ?_ | refine pwt_lin ?_ | (refine po_test rfl rfl rfl rfl zB ?_ ?_ <;> intro hb <;> first | exact zX | refine zDn ?_) | refine zq5 ?_ | refine zq6 ?_ | (refine zT ?_ ?_ <;> intro h <;> first | exact zX | refine zNq ?_)))
 all_goals (refine ret1 _ rfl ?_ rfl; refine iE ?_; unfold pair2; split <;> omega)
instance (s : Str) : ConF Tryz.prog Gl 193 [.str s] True (.int .i64 (pair2 s)) := ⟨e193, fun _ => c_two s⟩
theorem pair2_range (s : Str) : -1 ≤ pair2 s ∧ pair2 s ≤ 99 := by unfold pair2; split <;> omega
def hm (l r : Str) (f : Bool) : Int := if f = true ∧ 0 ≤ pair2 l ∧ pair2 l ≤ 23 ∧ 0 ≤ pair2 r ∧ pair2 r ≤ 59 then 60 * pair2 l + pair2 r else -1
def clock (s : Str) : Int := if s = [50, 52, 58, 48, 48] then 1440 else hm (Lib.cut s [58]).1 (Lib.cut s [58]).2.1 (Lib.cut s [58]).2.2
theorem clock_range (s : Str) : -1 ≤ clock s ∧ clock s ≤ 1440 := by unfold clock hm; split <;> (try split) <;> omega
theorem c_clock (hG : GM Gl) (s : Str) (hs : s.length < 4294967281) : PFun Tryz.prog Gl 173 [.str s] fun r => r = .int .i64 (clock s) := by
 (refine PFun.of hT Tryz.func173 rfl fun B hD => ?_; refine pw_norm rfl ?_)
 have hl := pair2_range (Lib.cut s [58]).1
 have hr := pair2_range (Lib.cut s [58]).2.1
 (repeat' (first | refine zS ?_ | refine zq5 ?_ | refine zq6 ?_ | (refine zT ?_ ?_ <;> intro h <;> first | exact zX | refine zNq ?_)))
 all_goals first | (refine ret1 _ rfl ?_ rfl; refine iE ?_; unfold clock hm; simp only [*, if_true, if_false]; try (split <;> simp_all <;> omega)) | (refine pl_op rfl ?_; refine op_conG rfl rfl rfl (by exact inferInstance) (by repeat' (first | exact trivial | assumption | apply And.intro | omega)) (by rfl) (by rfl) ?_)
instance (s : Str) : ConF Tryz.prog Gl 173 [.str s] (GM Gl ∧ s.length < 4294967281) (.int .i64 (clock s)) := ⟨e173, fun h => c_clock h.1 s h.2⟩
theorem c_index1 (L : List Str) (v : Str) (hl : Small L) : PFun Tryz.prog Gl 202 [.sl (L.map .str), .str v] fun r => r = .int .i64 (firstAt (v == ·) L) := by
 (refine PFun.of hT Tryz.func202 rfl fun B hD => ?_; refine pw_norm rfl ?_)
 unfold Small at hl
 (repeat' (first | refine zS ?_ | (refine zT ?_ ?_ <;> intro h <;> first | exact zX | refine zNq ?_)))
 refine pw_for hD (fun i : Nat => [(8, .int .i64 i)]) (fun _ => []) (fun i => i ≤ L.length ∧ ∀ (j : Nat) d, j < i → L[j]? = some d → (v == d) = false) (fun i => L.length - i) 0 ⟨by omega, by intro j c h; omega⟩ 0 rfl (fun _ => rfl) zLes (fun _ => rfl) (fun _ => rfl) zLe ?_
 rintro i ⟨hi, hno⟩
 (repeat' (first | refine zS ?_ | (refine zT ?_ ?_ <;> intro h <;> first | exact zX | refine zNq ?_)))
 ·have hlt : i < L.length := by omega
  refine ret1 _ rfl ?_ rfl
  rw [firstAt_hit hlt (by rename_i h; rw [h, List.getD, List.getElem?_eq_getElem hlt]; simp) hno]
 ·have hlt : i < L.length := by omega
  refine ⟨i + 1, ⟨by omega, fun j d hj hd => ?_⟩, by omega, zLe, zLes⟩
  rcases Nat.lt_succ_iff_lt_or_eq.1 hj with hj | rfl
  ·exact hno j d hj hd
  ·rename_i h; simp only [List.getD, hd, Option.getD_some] at h; simpa using h
 ·refine ret1 _ rfl ?_ rfl
  rw [firstAt_miss fun j x hj => hno j x (by have := (List.getElem?_eq_some_iff.1 hj).1; omega) hj]
instance (L : List Str) (v : Str) : ConF Tryz.prog Gl 202 [.sl (L.map .str), .str v] (Small L) (.int .i64 (firstAt (v == ·) L)) := ⟨e202, fun h => c_index1 L v h⟩
def dayIx (s : Str) : Int := firstAt (s == ·) dayNames
theorem firstAt_range {α : Type} (p : α → Bool) (l : List α) : -1 ≤ firstAt p l ∧ firstAt p l < l.length := by
 unfold firstAt
 split
 ·rename_i i h
  rw [List.findIdx?_eq_some_iff_getElem] at h
  obtain ⟨h, _⟩ := h
  omega
 ·omega
theorem dayIx_range (s : Str) : -1 ≤ dayIx s ∧ dayIx s ≤ 6 := by
 have := firstAt_range (s == ·) dayNames
 have h7 : dayNames.length = 7 := rfl
 unfold dayIx; omega
def GD (Gl : Glob) : Prop := GRow Gl 0 (dayNames.map .str)
theorem c_dayIndex (hD' : GD Gl) (s : Str) : PFun Tryz.prog Gl 172 [.str s] fun r => r = .int .i64 (dayIx s) := by
 (refine PFun.of hT Tryz.func172 rfl fun B hD => ?_; refine pw_norm rfl ?_)
 (repeat' (first | refine zS ?_ | (refine zT ?_ ?_ <;> intro h <;> first | exact zX | refine zNq ?_)))
 (refine pl_op rfl (op_of (v_gslice hT rfl rfl rfl rfl hD' rfl (by decide) (by decide)) ?_); (refine zNp ?_))
 have hs : Small dayNames := by unfold Small; decide
 (repeat' (first | refine zS ?_ | (refine zT ?_ ?_ <;> intro h <;> first | exact zX | refine zNq ?_)))
 exact ret1 _ rfl rfl rfl
instance (s : Str) : ConF Tryz.prog Gl 172 [.str s] (GD Gl) (.int .i64 (dayIx s)) := ⟨e172, fun h => c_dayIndex h s⟩
theorem c_rdays : PFun Tryz.prog Gl 84 [] fun r => r = .sl (dayNames.map .str) := by
 (refine PFun.of hT Tryz.func84 rfl fun B hD => ?_; refine pw_norm rfl ?_)
 (repeat' (first | refine zS ?_ | (refine zT ?_ ?_ <;> intro h <;> first | exact zX | refine zNq ?_)))
 exact ret1 _ rfl rfl rfl
instance : ConF Tryz.prog Gl 84 [] True (.sl (dayNames.map .str)) := ⟨e84, fun _ => c_rdays⟩
theorem c_rday (s : Str) : PFun Tryz.prog Gl 159 [.str s] fun r => r = .int .i64 (dayIx s) := by
 (refine PFun.of hT Tryz.func159 rfl fun B hD => ?_; refine pw_norm rfl ?_)
 (repeat' (first | refine zS ?_ | (refine zT ?_ ?_ <;> intro h <;> first | exact zX | refine zNq ?_)))
 refine pw_for hD (fun i : Nat => [(4, .int .i64 i)]) (fun _ => []) (fun i => i ≤ 7 ∧ ∀ (j : Nat) d, j < i → dayNames[j]? = some d → (s == d) = false) (fun i => 7 - i) 0 ⟨by omega, by intro j c h; omega⟩ 0 rfl (fun _ => rfl) zLes (fun _ => rfl) (fun _ => rfl) zLe ?_
 rintro i ⟨hi, hno⟩
 have h7 : dayNames.length = 7 := rfl
 (repeat' (first | refine zS ?_ | (refine zT ?_ ?_ <;> intro h <;> first | exact zX | refine zNq ?_)))
 ·have hlt : i < dayNames.length := by omega
  refine ret1 _ rfl ?_ rfl
  rename_i h
  rw [dayIx, firstAt_hit hlt (by rw [← h, List.getD, List.getElem?_eq_getElem hlt]; simp) hno]
 ·have hlt : i < dayNames.length := by omega
  refine ⟨i + 1, ⟨by omega, fun j d hj hd => ?_⟩, by omega, zLe, zLes⟩
  rcases Nat.lt_succ_iff_lt_or_eq.1 hj with hj | rfl
  ·exact hno j d hj hd
  ·rename_i h; simp only [List.getD, hd, Option.getD_some] at h; exact beq_eq_false_iff_ne.2 (fun e => h e.symm)
 ·refine ret1 _ rfl ?_ rfl
  rw [dayIx, firstAt_miss fun j x hj => hno j x (by have := (List.getElem?_eq_some_iff.1 hj).1; omega) hj]
instance (s : Str) : ConF Tryz.prog Gl 159 [.str s] True (.int .i64 (dayIx s)) := ⟨e159, fun _ => c_rday s⟩

end
end Go.Proofs.YtkaobkjcjodffaaGreatDoor