/-
  Plain laws of numbers and prefixes: what is written is read back.
  Plain laws of lines: a text of lines is read back as its lines.
-/
import Derived.Test.YtdehdgbdcfkpbaaGreatDoorKG2
import Derived.Test.YtdehdgbdcfkpbaaGreatDoorKD2
namespace Go.Proofs.YtdehdgbdcfkpbaaGreatDoor
open Go Go.Pw

theorem dig_toNat (d : Nat) (h : d < 10) : (UInt8.ofNat (48 + d)).toNat = 48 + d := by
  rw [UInt8.toNat_ofNat', Nat.mod_eq_of_lt (by omega)]
theorem dbad_dig (d : Nat) (h : d < 10) : dbad (UInt8.ofNat (48 + d)) = false := by
  unfold dbad
  rw [dig_toNat d h]
  simp
  omega
theorem dec_dig (n : Nat) : (dec n).any dbad = false := by
  induction n using Nat.strongRecOn with
  | _ n ih =>
    by_cases h : n < 10
    · rw [dec_lt h, List.any_cons, dbad_dig n h]; rfl
    · rw [dec_ge h, List.any_append, ih (n / 10) (by omega), List.any_cons, dbad_dig (n % 10) (by omega)]; rfl
theorem dval_dec (n : Nat) : dval (dec n) = n := by
  induction n using Nat.strongRecOn with
  | _ n ih =>
    by_cases h : n < 10
    · rw [dec_lt h]
      show 10 * 0 + ((UInt8.ofNat (48 + n)).toNat - 48) = n
      rw [dig_toNat n h]; omega
    · rw [dec_ge h, dval_snoc, ih (n / 10) (by omega), dig_toNat (n % 10) (by omega)]; omega
theorem dec_ne (n : Nat) : dec n ≠ [] := by
  by_cases h : n < 10
  · rw [dec_lt h]; simp
  · rw [dec_ge h]; simp
theorem dec_hd (n : Nat) (h1 : 1 ≤ n) : ((dec n).headD 0).toNat ≠ 48 := by
  induction n using Nat.strongRecOn with
  | _ n ih =>
    by_cases h : n < 10
    · rw [dec_lt h]
      show (UInt8.ofNat (48 + n)).toNat ≠ 48
      rw [dig_toNat n h]; omega
    · rw [dec_ge h]
      have := ih (n / 10) (by omega) (by omega)
      cases hd : dec (n / 10) with
      | nil => exact absurd hd (dec_ne _)
      | cons c l => rw [hd] at this; exact this
theorem dec_long {n : Nat} (h : 1 < (dec n).length) : 1 ≤ n := by
  by_cases h1 : n < 10
  · rw [dec_lt h1] at h; simp at h
  · omega
theorem zhead_dec (n : Nat) : (decide (((dec n).length : Int) > 1) && ((((dec n).headD 0).toNat : Int) == 48)) = false := by
  by_cases h : 1 < (dec n).length
  · have := dec_hd n (dec_long h)
    have e : ((((dec n).headD 0).toNat : Int) == 48) = false := by rw [beq_eq_false_iff_ne]; omega
    rw [e, Bool.and_false]
  · rw [decide_eq_false (by omega), Bool.false_and]
theorem rhead_dec (n : Nat) : rhead (dec n) = false := by
  unfold rhead
  rw [zhead_dec, Bool.or_false]
  simpa using dec_ne n
theorem rread_dec (n : Nat) (b : Int) (h : (n : Int) ≤ b) : rread (dec n) b = ((n : Int), true) := by
  rw [rread_eq _ b (by omega), rhead_dec, dec_dig, dval_dec, decide_eq_true h]; rfl
theorem number_dec (n : Nat) (a b : Int) (h1 : a ≤ n) (h2 : (n : Int) ≤ b) (h3 : n < 10000) : number (dec n) a b = ((n : Int), true) := by
  have hl := dec_small h3
  have hh : nhead (dec n) b = false := by
    unfold nhead
    rw [zhead_dec, decide_eq_false (show ¬ ((dec n).length : Int) > 19 by omega), decide_eq_false (show ¬ b < 0 by omega)]
    simpa using dec_ne n
  unfold number
  rw [hh, dec_dig, dval_dec, decide_eq_false (show ¬ (n : Int) > b by omega), decide_eq_false (show ¬ (n : Int) < a by omega)]
  rfl
theorem digitsB_dec (n : Nat) : digitsB (dec n) = true := by
  rw [digitsB_eq]
  unfold rdig
  rw [dec_dig]
  have h := zhead_dec n
  have hn := dec_ne n
  have e1 : (dec n == []) = false := by simpa using hn
  rw [e1]
  by_cases h1 : 1 < (dec n).length
  · rw [decide_eq_true (by omega), Bool.true_and] at h
    rw [bne, h]; simp
  · have : (dec n).length = 1 := by
      have : (dec n).length ≠ 0 := by simpa using hn
      omega
    rw [this]; simp
theorem tnum_dec (n : Nat) (a b : Int) (h1 : a ≤ n) (h2 : (n : Int) ≤ b) (h3 : n < 10000) : tnum (dec n) a b = ((n : Int), 0) := tnum_ok (digitsB_dec n) (by rw [number_dec n a b h1 h2 h3]) |>.trans (by rw [number_dec n a b h1 h2 h3])
/-! ### addresses and prefixes -/
theorem dec_no {c : UInt8} (h : dbad c = true) (n : Nat) : c ∉ dec n := fun hc => by
  have := List.any_eq_false.1 (dec_dig n) c hc
  exact this h
theorem addrS_cons (a : Nat) : addrS a = dec (oct a 24) ++ 46 :: (dec (oct a 16) ++ 46 :: (dec (oct a 8) ++ 46 :: dec (oct a 0))) := by simp [addrS]
theorem parts_addr (a : Nat) : parts 46 (addrS a) = [dec (oct a 24), dec (oct a 16), dec (oct a 8), dec (oct a 0)] := by
  have hn := fun n => dec_no (c := 46) (by decide) n
  rw [addrS_cons]
  have e1 := parts_some (hn (oct a 24)) (b := dec (oct a 16) ++ 46 :: (dec (oct a 8) ++ 46 :: dec (oct a 0))) []
  have e2 := parts_some (hn (oct a 16)) (b := dec (oct a 8) ++ 46 :: dec (oct a 0)) []
  have e3 := parts_some (hn (oct a 8)) (b := dec (oct a 0)) []
  have e4 := parts_none (hn (oct a 0)) []
  rw [parts, e1, parts, e2, parts, e3, parts, e4]; rfl
theorem okOct_dec (n : Nat) (h : n < 256) : okOct (dec n) = true ∧ vOct (dec n) = (n : Int) := by
  have := rread_dec n 255 (by omega)
  unfold okOct vOct
  rw [this]; exact ⟨rfl, rfl⟩
theorem oct_sum (a : Nat) (h : a < 4294967296) : (((0 * 256 + (oct a 24 : Int)) * 256 + (oct a 16 : Int)) * 256 + (oct a 8 : Int)) * 256 + (oct a 0 : Int) = (a : Int) := by
  simp only [oct]
  omega
theorem addr_addrS (a : Nat) (h : a < 4294967296) : addr (addrS a) = ((a : Int), true) := by
  rw [addr_eq]
  unfold raddr
  rw [parts_addr]
  obtain ⟨a1, b1⟩ := okOct_dec (oct a 24) (oct_lt a 24)
  obtain ⟨a2, b2⟩ := okOct_dec (oct a 16) (oct_lt a 16)
  obtain ⟨a3, b3⟩ := okOct_dec (oct a 8) (oct_lt a 8)
  obtain ⟨a4, b4⟩ := okOct_dec (oct a 0) (oct_lt a 0)
  rw [if_pos (show ([dec (oct a 24), dec (oct a 16), dec (oct a 8), dec (oct a 0)] : List Str).length = 4 from rfl)]
  simp only [sum4, a1, a2, a3, a4, b1, b2, b3, b4, if_true, oct_sum a h]
  rfl
theorem slash_no (a : Nat) : (47 : UInt8) ∉ addrS a := by
  have hn := fun n => dec_no (c := 47) (by decide) n
  rw [addrS]
  simp only [List.mem_append, List.mem_singleton, not_or]
  exact ⟨⟨⟨⟨⟨⟨hn _, by decide⟩, hn _⟩, by decide⟩, hn _⟩, by decide⟩, hn _⟩
theorem pfx_pfxS (p : TPfx) (hp : PfxIn p) (hv : rvalid p = true) : pfxParse (pfxS p) = (p, true) := by
  have hb := rvalid_b hv
  have e0 : pfxS p = addrS p.addr.toNat ++ 47 :: dec p.bits.toNat := by simp [pfxS]
  have e1 := parts_some (slash_no p.addr.toNat) (b := dec p.bits.toNat) []
  have e2 := parts_none (dec_no (c := 47) (by decide) p.bits.toNat) []
  have ha : ((p.addr.toNat : Nat) : Int) = p.addr := Int.toNat_of_nonneg hp.1
  have hbb : ((p.bits.toNat : Nat) : Int) = p.bits := Int.toNat_of_nonneg hb.1
  have h1 := addr_addrS p.addr.toNat (by have := hp.2; omega)
  have h2 := rread_dec p.bits.toNat 32 (by omega)
  rw [ha] at h1
  rw [hbb] at h2
  rw [pfx_eq]
  unfold rpfx
  have e3 : parts 47 (pfxS p) = [addrS p.addr.toNat, dec p.bits.toNat] := by
    rw [e0, parts, e1, parts, e2]; rfl
  rw [e3, if_pos (show ([addrS p.addr.toNat, dec p.bits.toNat] : List Str).length = 2 from rfl), show ([addrS p.addr.toNat, dec p.bits.toNat] : List Str).getD 0 [] = addrS p.addr.toNat from rfl, show ([addrS p.addr.toNat, dec p.bits.toNat] : List Str).getD 1 [] = dec p.bits.toNat from rfl, h1, h2]
  show (if _ then _ else _) = _
  rw [hv]
  rfl
end Go.Proofs.YtdehdgbdcfkpbaaGreatDoor
namespace Go.Proofs.YtdehdgbdcfkpbaaGreatDoor
open Go Go.Pw

def gbyte (c : UInt8) : Bool := isWord c && (noHash c && (pbyte c && !(c == 10)))
structure GW (s : Str) : Prop where
  ne : s ≠ []
  all : ∀ c ∈ s, gbyte c = true
theorem gbyte_word {c : UInt8} (h : gbyte c = true) : isWord c = true := (Bool.and_eq_true_iff.1 h).1
theorem gbyte_hash {c : UInt8} (h : gbyte c = true) : noHash c = true := (Bool.and_eq_true_iff.1 (Bool.and_eq_true_iff.1 h).2).1
theorem gbyte_p {c : UInt8} (h : gbyte c = true) : pbyte c = true := (Bool.and_eq_true_iff.1 (Bool.and_eq_true_iff.1 (Bool.and_eq_true_iff.1 h).2).2).1
theorem gbyte_10 {c : UInt8} (h : gbyte c = true) : c ≠ 10 := by
  have := (Bool.and_eq_true_iff.1 (Bool.and_eq_true_iff.1 (Bool.and_eq_true_iff.1 h).2).2).2
  simpa using this
/-- A byte of a joined line. -/
def lbyte (c : UInt8) : Bool := gbyte c || (c == 32)
theorem lbyte_ok {c : UInt8} (h : lbyte c = true) : noHash c = true ∧ pbyte c = true ∧ c ≠ 10 := by
  rcases Bool.or_eq_true_iff.1 h with h | h
  · exact ⟨gbyte_hash h, gbyte_p h, gbyte_10 h⟩
  · have : c = 32 := by simpa using h
    subst this
    exact ⟨by decide, by decide, by decide⟩
theorem joinW_lbyte : ∀ (w : List Str) (k : Nat), (∀ s ∈ w, GW s) → ∀ c ∈ joinW k w, lbyte c = true
  | [], k, _, c, hc => by cases k <;> simp [joinW] at hc
  | s :: w, k, h, c, hc => by
    have h1 := (h s (List.mem_cons_self ..)).all
    have h2 := fun j => joinW_lbyte w j fun x hx => h x (List.mem_cons_of_mem _ hx)
    cases k with
    | zero =>
      simp only [joinW, List.mem_append] at hc
      rcases hc with hc | hc
      · unfold lbyte; rw [h1 c hc, Bool.true_or]
      · exact h2 1 c hc
    | succ k =>
      simp only [joinW, List.mem_append, List.mem_singleton] at hc
      rcases hc with (hc | hc) | hc
      · subst hc; decide
      · unfold lbyte; rw [h1 c hc, Bool.true_or]
      · exact h2 (k + 2) c hc
theorem takeWhile_all {α : Type} {p : α → Bool} {l : List α} (h : ∀ c ∈ l, p c = true) (r : List α) (hr : ∀ c r', r = c :: r' → p c = false) : (l ++ r).takeWhile p = l ∧ (l ++ r).dropWhile p = r := by
  induction l with
  | nil =>
    cases r with
    | nil => exact ⟨rfl, rfl⟩
    | cons c r =>
      have := hr c r rfl
      simp [this]
  | cons c l ih =>
    have h1 := h c (List.mem_cons_self ..)
    obtain ⟨h2, h3⟩ := ih fun x hx => h x (List.mem_cons_of_mem _ hx)
    simp [h1, h2, h3]
theorem rwords_word {s : Str} (h : GW s) (r : Str) (hr : ∀ c r', r = c :: r' → isWord c = false) : rwords (s ++ r) = s :: rwords r := by
  obtain ⟨hne, hall⟩ := h
  cases s with
  | nil => exact absurd rfl hne
  | cons c s =>
    have hc := gbyte_word (hall c (List.mem_cons_self ..))
    have hb : isBlank c = false := by unfold isWord at hc; simp at hc; exact hc.1
    have hs : isSep c = false := by unfold isWord at hc; simp at hc; exact hc.2
    obtain ⟨h1, h2⟩ := takeWhile_all (p := isWord) (l := s) (fun x hx => gbyte_word (hall x (List.mem_cons_of_mem _ hx))) r hr
    rw [List.cons_append, rwords_cons, hb, hs, h1, h2]
theorem rwords_join : ∀ (w : List Str) (k : Nat), (∀ s ∈ w, GW s) → rwords (joinW (k + 1) w) = w
  | [], k, _ => rfl
  | s :: w, k, h => by
    have e : joinW (k + 1) (s :: w) = 32 :: (s ++ joinW (k + 2) w) := by simp [joinW]
    rw [e, rwords_cons, show isBlank 32 = true from rfl]
    show rwords (s ++ joinW (k + 2) w) = _
    rw [rwords_word (h s (List.mem_cons_self ..)) _ ?_, rwords_join w (k + 1) fun x hx => h x (List.mem_cons_of_mem _ hx)]
    intro c r' hc
    cases w with
    | nil => simp [joinW] at hc
    | cons y w => simp [joinW] at hc; rw [← hc.1]; rfl
theorem rwords_join0 (w : List Str) (h : ∀ s ∈ w, GW s) : rwords (joinW 0 w) = w := by
  cases w with
  | nil => rfl
  | cons s w =>
    rw [joinW, rwords_word (h s (List.mem_cons_self ..)) _ ?_, rwords_join w 0 fun x hx => h x (List.mem_cons_of_mem _ hx)]
    intro c r' hc
    cases w with
    | nil => simp [joinW] at hc
    | cons y w => simp [joinW] at hc; rw [← hc.1]; rfl
theorem words_join (w : List Str) (h : ∀ s ∈ w, GW s) : words (joinW 0 w) = w := by
  rw [words_rw]
  have : (joinW 0 w).takeWhile noHash = joinW 0 w := by
    have := (takeWhile_all (p := noHash) (l := joinW 0 w) (fun c hc => (lbyte_ok (joinW_lbyte w 0 h c hc)).1) [] (by intro c r' e; cases e)).1
    simpa using this
  rw [this, rwords_join0 w h]
/-- What a list of lines must be like. -/
structure LGood (l : List TLine) : Prop where
  some : ∀ x ∈ l, 0 < x.words.length
  few : ∀ x ∈ l, x.words.length ≤ 64
  good : ∀ x ∈ l, ∀ s ∈ x.words, GW s
theorem LGood.tail {x : TLine} {l : List TLine} (h : LGood (x :: l)) : LGood l := ⟨fun y hy => h.some y (List.mem_cons_of_mem _ hy), fun y hy => h.few y (List.mem_cons_of_mem _ hy), fun y hy => h.good y (List.mem_cons_of_mem _ hy)⟩
theorem parts_text : ∀ (l : List TLine), LGood l → parts 10 (textS l) = (l.map fun x => joinW 0 x.words) ++ [[]]
  | [], _ => rfl
  | x :: l, h => by
    have e : textS (x :: l) = joinW 0 x.words ++ 10 :: textS l := by simp [textS, lineS]
    have hn : (10 : UInt8) ∉ joinW 0 x.words := fun hc => (lbyte_ok (joinW_lbyte x.words 0 (h.good x (List.mem_cons_self ..)) 10 hc)).2.2 rfl
    rw [e, parts, parts_some hn, parts_text l h.tail]
    rfl
/-- Lines with their numbers. -/
def numF : Nat → List TLine → List TLine
  | _, [] => []
  | i, x :: l => ⟨(i : Int) + 1, x.words⟩ :: numF (i + 1) l
theorem lrun_text : ∀ (l : List TLine) (i : Nat) (out : List TLine), LGood l → lrun ((l.map fun x => joinW 0 x.words) ++ [[]]) i out = (out ++ numF i l, 0, 0)
  | [], i, out, _ => by
    show lrun [[]] i out = _
    have : words [] = [] := rfl
    simp [lrun, this, numF]
  | x :: l, i, out, h => by
    have hg := h.good x (List.mem_cons_self ..)
    have hw := words_join x.words hg
    have h1 := h.some x (List.mem_cons_self ..)
    have h2 := h.few x (List.mem_cons_self ..)
    have hp : (joinW 0 x.words).all pbyte = true := List.all_eq_true.2 fun c hc => (lbyte_ok (joinW_lbyte x.words 0 hg c hc)).2.1
    rw [List.map_cons, List.cons_append, lrun, hp, hw, decide_eq_false (show ¬ (x.words.length : Int) > 64 by omega), decide_eq_true (show (x.words.length : Int) > 0 by omega)]
    simp only [Bool.not_true, Bool.false_eq_true, if_false, if_true]
    rw [lrun_text l (i + 1) _ h.tail, numF]
    simp
theorem lines_text (l : List TLine) (h : LGood l) (hb : (textS l).length ≤ 16384) : lines (textS l) = (numF 0 l, 0, 0) := by
  unfold lines
  rw [decide_eq_false (show ¬ ((textS l).length : Int) > 16384 by omega), splitAt_parts, parts_text l h, lrun_text l 0 [] h]
  rfl
theorem numF_words : ∀ (l : List TLine) (i : Nat), (numF i l).map TLine.words = l.map TLine.words
  | [], _ => rfl
  | x :: l, i => by rw [numF, List.map_cons, List.map_cons, numF_words l (i + 1)]
end Go.Proofs.YtdehdgbdcfkpbaaGreatDoor
