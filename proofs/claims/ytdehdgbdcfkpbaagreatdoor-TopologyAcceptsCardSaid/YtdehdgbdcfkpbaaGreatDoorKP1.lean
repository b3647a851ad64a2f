/-
  Plain laws of lines: the words of a line and the parts of a text, as the program and the reference find them.
-/
import Derived.Test.YtdehdgbdcfkpbaaGreatDoorKB5
import Derived.Test.YtdehdgbdcfkpbaaGreatDoorJPwLoop
namespace Go.Proofs.YtdehdgbdcfkpbaaGreatDoor
open Go Go.Pw
/-! ### the words of a line, by structure -/
def isBlank (c : UInt8) : Bool := c == 32 || c == 9
def isSep (c : UInt8) : Bool := c == 44 || c == 61
def isWord (c : UInt8) : Bool := !isBlank c && !isSep c
def flush : Option Str → List Str
  | some w => [w]
  | none => []
/-- The words, with the word under way. -/
def tk : Str → Option Str → List Str
  | [], cur => flush cur
  | c :: s, cur => match c == 35 with
    | true => flush cur
    | false => match isBlank c with
      | true => flush cur ++ tk s none
      | false => match isSep c with
        | true => flush cur ++ [c] :: tk s none
        | false => tk s (some (cur.getD [] ++ [c]))
theorem sub_snoc {s : Str} {k i : Nat} {c : UInt8} (h : s[i]? = some c) (hk : k ≤ i) : sub s k (i + 1) = sub s k i ++ [c] := by
  unfold sub
  obtain ⟨hi, rfl⟩ := List.getElem?_eq_some_iff.1 h
  rw [List.take_succ_eq_append_getElem hi, List.drop_append_of_le_length (by simp; omega)]
theorem wrun_tk (s : Str) : ∀ (n i : Nat) (out : List Str) (st : Option Nat), s.length = i + n → (∀ k, st = some k → k < i) → wrun s n i out st = out ++ tk (s.drop i) (st.map fun k => sub s k i)
  | 0, i, out, st, hn, hs => by
    rw [List.drop_eq_nil_of_le (by omega)]
    cases st <;> simp [wrun, endW, tk, flush]
  | n + 1, i, out, st, hn, hs => by
    have hi : i < s.length := by omega
    have hg : s[i]? = some s[i] := List.getElem?_eq_getElem hi
    rw [List.drop_eq_getElem_cons hi]
    generalize s[i] = c at hg
    have he : endW s out st i = out ++ flush (st.map fun k => sub s k i) := by cases st <;> simp [endW, flush]
    rw [wrun]
    simp only [hg]
    unfold tk
    by_cases h1 : c = 35
    · rw [if_pos h1, he]; simp [h1]
    rw [if_neg h1, show (c == 35) = false by simpa using h1]
    dsimp only
    by_cases h2 : c = 32 ∨ c = 9
    · rw [if_pos h2, wrun_tk s n (i + 1) _ none (by omega) (by intro k h; cases h), he, show isBlank c = true by rcases h2 with rfl | rfl <;> decide]
      simp
    rw [if_neg h2, show isBlank c = false by simp [isBlank]; exact ⟨fun h => h2 (.inl h), fun h => h2 (.inr h)⟩]
    dsimp only
    by_cases h3 : c = 44 ∨ c = 61
    · rw [if_pos h3, wrun_tk s n (i + 1) _ none (by omega) (by intro k h; cases h), he, show isSep c = true by rcases h3 with rfl | rfl <;> decide, sub_snoc hg (Nat.le_refl _)]
      simp [sub]
    rw [if_neg h3, show isSep c = false by simp [isSep]; exact ⟨fun h => h3 (.inl h), fun h => h3 (.inr h)⟩]
    dsimp only
    rw [wrun_tk s n (i + 1) _ _ (by omega) (by
      intro k h
      cases st with
      | none => simp at h; omega
      | some j => have := hs j rfl; simp at h; omega)]
    congr 2
    cases st with
    | none => show some (sub s i (i + 1)) = some ([] ++ [c]); rw [sub_snoc hg (Nat.le_refl _)]; simp [sub]
    | some j => simp [sub_snoc hg (Nat.le_of_lt (hs j rfl))]
theorem words_tk (s : Str) : words s = tk s none := by
  rw [words, wrun_tk s s.length 0 [] none (by omega) (by intro k h; cases h)]; simp
/-- The words of a text without a comment, as the reference finds them. -/
def rw1 : Nat → Str → List Str
  | 0, _ => []
  | _ + 1, [] => []
  | n + 1, c :: s => match isBlank c with
    | true => rw1 n s
    | false => match isSep c with
      | true => [c] :: rw1 n s
      | false => (c :: s.takeWhile isWord) :: rw1 n (s.dropWhile isWord)
def rwords (s : Str) : List Str := rw1 s.length s
theorem dropWhile_len {α : Type} (p : α → Bool) (l : List α) : (l.dropWhile p).length ≤ l.length := List.IsSuffix.length_le (List.dropWhile_suffix p)
theorem rw1_fuel : ∀ (n m : Nat) (s : Str), s.length ≤ n → s.length ≤ m → rw1 n s = rw1 m s
  | 0, m, [], _, _ => by cases m <;> rfl
  | n + 1, 0, [], _, _ => rfl
  | n + 1, m + 1, [], _, _ => rfl
  | n + 1, m + 1, c :: s, h1, h2 => by
    simp only [List.length_cons] at h1 h2
    have := dropWhile_len isWord s
    unfold rw1
    rw [rw1_fuel n m s (by omega) (by omega), rw1_fuel n m (s.dropWhile isWord) (by omega) (by omega)]
theorem rwords_cons (c : UInt8) (s : Str) : rwords (c :: s) = match isBlank c with
    | true => rwords s
    | false => match isSep c with
      | true => [c] :: rwords s
      | false => (c :: s.takeWhile isWord) :: rwords (s.dropWhile isWord) := by
  unfold rwords
  rw [List.length_cons, rw1, rw1_fuel s.length (s.dropWhile isWord).length (s.dropWhile isWord) (dropWhile_len _ _) (Nat.le_refl _)]
def noHash (c : UInt8) : Bool := !(c == 35)
theorem word_noHash {c : UInt8} (h : isWord c = false) : noHash c = true := by
  unfold isWord at h
  by_cases h35 : c = 35
  · subst h35; simp [isBlank, isSep] at h
  · simp [noHash, h35]
theorem tk_some : ∀ (s : Str) (w : Str), tk s (some w) = (w ++ (s.takeWhile noHash).takeWhile isWord) :: rwords ((s.takeWhile noHash).dropWhile isWord)
    ∧ tk s none = rwords (s.takeWhile noHash) := by
  intro s
  induction s with
  | nil => intro w; simp [tk, flush, rwords, rw1]
  | cons c s ih =>
    intro w
    unfold tk
    by_cases h1 : c = 35
    · subst h1
      simp [flush, noHash, rwords, rw1]
    rw [show (c == 35) = false by simpa using h1, List.takeWhile_cons, show noHash c = true by simp [noHash, h1]]
    dsimp only
    cases h2 : isBlank c with
    | true =>
      have hw : isWord c = false := by simp [isWord, h2]
      simp only [if_true, List.takeWhile_cons, List.dropWhile_cons, hw, Bool.false_eq_true, if_false]
      rw [rwords_cons, h2]
      simp [flush, (ih []).2]
    | false =>
      cases h3 : isSep c with
      | true =>
        have hw : isWord c = false := by simp [isWord, h2, h3]
        simp only [if_true, List.takeWhile_cons, List.dropWhile_cons, hw, Bool.false_eq_true, if_false]
        rw [rwords_cons, h2, h3]
        simp [flush, (ih []).2]
      | false =>
        have hw : isWord c = true := by simp [isWord, h2, h3]
        simp only [if_true, List.takeWhile_cons, List.dropWhile_cons, hw]
        rw [rwords_cons, h2, h3]
        simp [(ih (w ++ [c])).1, (ih [c]).1]
theorem words_rw (s : Str) : words s = rwords (s.takeWhile noHash) := by rw [words_tk, (tk_some s []).2]
/-! ### parts -/
/-- The parts of a text between the occurrences of a byte, with the part under way. -/
def partsA (c : UInt8) : Str → Str → List Str
  | [], cur => [cur]
  | b :: s, cur => match b == c with
    | true => cur :: partsA c s []
    | false => partsA c s (cur ++ [b])
def parts (c : UInt8) (s : Str) : List Str := partsA c s []
theorem partsA_pre (c : UInt8) : ∀ (s cur : Str), ∃ p ps, parts c s = p :: ps ∧ partsA c s cur = (cur ++ p) :: ps := by
  intro s
  induction s with
  | nil => intro cur; exact ⟨[], [], rfl, by simp [partsA]⟩
  | cons b s ih =>
    intro cur
    unfold parts
    unfold partsA
    cases h : b == c with
    | true => exact ⟨[], partsA c s [], rfl, by simp⟩
    | false =>
      obtain ⟨p, ps, h1, h2⟩ := ih (cur ++ [b])
      obtain ⟨p', ps', h3, h4⟩ := ih [b]
      rw [h1] at h3
      cases h3
      exact ⟨[b] ++ p, ps, h4, by simpa using h2⟩
/-- At the first occurrence. -/
theorem parts_none {c : UInt8} {s : Str} (h : c ∉ s) : ∀ cur, partsA c s cur = [cur ++ s] := by
  induction s with
  | nil => intro cur; simp [partsA]
  | cons b s ih =>
    intro cur
    simp only [List.mem_cons, not_or] at h
    rw [partsA, show (b == c) = false by simpa using fun e => h.1 e.symm]
    dsimp only
    rw [ih h.2]; simp
theorem parts_some {c : UInt8} {a b : Str} (h : c ∉ a) : ∀ cur, partsA c (a ++ c :: b) cur = (cur ++ a) :: parts c b := by
  induction a with
  | nil => intro cur; simp [partsA, parts]
  | cons x a ih =>
    intro cur
    simp only [List.mem_cons, not_or] at h
    rw [List.cons_append, partsA, show (x == c) = false by simpa using fun e => h.1 e.symm]
    dsimp only
    rw [ih h.2]; simp
theorem parts_len (c : UInt8) (s : Str) : (parts c s).length = s.count c + 1 := by
  have : ∀ (s cur : Str), (partsA c s cur).length = s.count c + 1 := by
    intro s
    induction s with
    | nil => intro cur; rfl
    | cons b s ih =>
      intro cur
      rw [partsA]
      cases h : b == c with
      | true => simp [ih, beq_iff_eq.1 h]
      | false => simp [ih, List.count_cons, h]
  exact this s []
theorem index_one (c : UInt8) : ∀ (s : Str), (c ∉ s ∧ Lib.index s [c] = -1) ∨ ∃ a b, s = a ++ c :: b ∧ c ∉ a ∧ Lib.index s [c] = (a.length : Int)
  | [] => .inl ⟨by simp, by simp [Lib.index]⟩
  | x :: s => by
    by_cases h : x = c
    · subst h
      exact .inr ⟨[], s, rfl, by simp, by simp [Lib.index, List.isPrefixOf]⟩
    · have hp : ([c] : List UInt8).isPrefixOf (x :: s) = false := by simp [List.isPrefixOf, Ne.symm h]
      rcases index_one c s with ⟨h1, h2⟩ | ⟨a, b, h1, h2, h3⟩
      · refine .inl ⟨by simp [h1, Ne.symm h], ?_⟩
        rw [Lib.index, hp, h2]; rfl
      · refine .inr ⟨x :: a, b, by rw [h1]; rfl, by simp [h2, Ne.symm h], ?_⟩
        rw [Lib.index, hp, h3]
        have : ¬ ((a.length : Int) == -1) = true := by simp
        simp [this]
theorem ext_toList (b : ByteArray) (i j : Nat) : (b.extract i j).data.toList = (b.data.toList.take j).drop i := by
  rw [ByteArray.data_extract, Array.toList_extract]
  simp [List.extract, List.drop_take]
theorem splitB_parts (c : UInt8) : ∀ (k : Nat) (b : ByteArray), b.data.toList.count c = k → (Lib.splitB (bytes [c]) 0 k b).map (fun b => b.data.toList) = parts c b.data.toList
  | 0, b, hk => by
    have hn : c ∉ b.data.toList := by rw [← List.count_eq_zero]; exact hk
    rw [Lib.splitB_zero, parts, parts_none hn]; simp
  | k + 1, b, hk => by
    have hm : c ∈ b.data.toList := by rw [← List.count_pos_iff]; omega
    rcases index_one c b.data.toList with ⟨h1, _⟩ | ⟨x, y, h1, h2, h3⟩
    · exact absurd hm h1
    have hix : Lib.indexB b (bytes [c]) = (x.length : Int) := h3
    rw [Lib.splitB_hit (bytes [c]) 0 k b x.length hix, List.map_cons]
    have e1 : (bytes [c]).size = 1 := rfl
    have e2 : (b.extract (x.length + 1) b.size).data.toList = y := by
      rw [ext_toList, h1]
      have : b.size = (x ++ c :: y).length := by rw [← h1]; exact Array.length_toList.symm
      rw [this, List.take_length, List.drop_append]
      simp
    have e3 : (b.extract 0 (x.length + 0)).data.toList = x := by
      rw [ext_toList, h1]; simp
    rw [e1, e3, splitB_parts c k _ (by rw [e2]; rw [h1] at hk; simp [List.count_append, List.count_eq_zero.2 h2] at hk; exact hk), e2, h1]
    exact (parts_some h2 []).symm
theorem splitAt_parts (c : UInt8) (s : Str) : splitAt c s = parts c s := by
  unfold splitAt
  exact splitB_parts c _ (bytes s) (Lib.count_one c s).symm
theorem part_len' (c : UInt8) (s : Str) : ∀ p ∈ parts c s, p.length ≤ s.length := by
  intro p hp
  rw [← splitAt_parts] at hp
  exact splitAt_size hp
/-- Without the byte, the first part is the beginning up to it. -/
theorem parts_head (c : UInt8) (s : Str) : (parts c s).getD 0 [] = s.takeWhile (fun x => !(x == c)) := by
  have : ∀ (s cur : Str), (partsA c s cur).getD 0 [] = cur ++ s.takeWhile (fun x => !(x == c)) := by
    intro s
    induction s with
    | nil => intro cur; simp [partsA]
    | cons b s ih =>
      intro cur
      rw [partsA, List.takeWhile_cons]
      cases h : b == c with
      | true => simp
      | false => dsimp only; rw [ih]; simp
  exact (this s []).trans (List.nil_append _)
end Go.Proofs.YtdehdgbdcfkpbaaGreatDoor
namespace Go.Proofs.YtdehdgbdcfkpbaaGreatDoor
open Go Go.Pw
variable {Gl : Glob}
attribute [local irreducible] PW PWL OpP PCalls PWO
set_option maxHeartbeats 20000000

/-! ### the reference's Parts -/
theorem sub_nil (s : Str) (k : Nat) : sub s k k = [] := by unfold sub; exact List.drop_eq_nil_of_le (by simp; omega)
theorem byte_eq (a b : UInt8) : (((a.toNat : Int)) == ((b.toNat : Int))) = (a == b) := by
  rw [Bool.eq_iff_iff, beq_iff_eq, beq_iff_eq]
  constructor
  · intro h; exact UInt8.toNat_inj.1 (by omega)
  · rintro rfl; rfl
theorem get_getD {s : Str} {i : Nat} (h : i < s.length) : s[i]? = some (s.getD i 0) := by rw [List.getD, List.getElem?_eq_getElem h]; rfl
theorem drop_getD {s : Str} {i : Nat} (h : i < s.length) : s.drop i = s.getD i 0 :: s.drop (i + 1) := by
  rw [List.drop_eq_getElem_cons h, List.getD, List.getElem?_eq_getElem h]; rfl
theorem c58 (s : Str) (c : UInt8) (hl : Small s) : PFun Tryz.prog Gl 58 [.str s, .int .u8 c.toNat] fun r => r = .sl ((parts c s).map .str) := by
  refine PFun.of hT Tryz.func58 rfl fun B hD => ?_
  refine pw_norm rfl ?_
  unfold Small at hl
  (refine zGo ?_)
  refine pw_ghost 1 ?_
  refine pw_norm rfl ?_
  refine pw_for hD (fun a : Nat × List Str × Nat × Nat => [(5, .msl 1 0 0 (a.2.1.map PV.str).length a.2.2.2), (6, .int .i64 a.2.2.1), (7, .int .i64 a.1)]) (fun a => [.arr 1 (a.2.1.map .str) a.2.2.2])
    (fun a => a.2.1.length ≤ a.1 ∧ ((a.1 ≤ s.length ∧ a.2.2.1 ≤ a.1 ∧ a.2.1 ++ partsA c (s.drop a.1) (sub s a.2.2.1 a.1) = parts c s) ∨ (a.1 = s.length + 1 ∧ a.2.1 = parts c s))) (fun a => s.length + 1 - a.1) (0, [], 0, 0)
    ⟨Nat.zero_le _, .inl ⟨Nat.zero_le _, Nat.le_refl _, by simp [sub, parts]⟩⟩ 1 rfl (fun _ => rfl) ⟨.inl rfl, trivial⟩ (fun _ => rfl) (fun _ => rfl) (by (exact zLe)) ?_
  rintro ⟨i, out, f, cap⟩ ⟨ho, hw⟩
  dsimp only at ho hw ⊢
  (refine zGo ?_)
  refine pw_cond rfl (fun h1 => ?_) (fun h1 => ?_)
  · simp only [decide_eq_true_eq] at h1
    have hi : i ≤ s.length := by omega
    obtain ⟨-, hf, hw⟩ | ⟨e, -⟩ := hw
    · (refine zGo ?_)
      (refine pl_or 6 18 24 (((s.getD i 0).toNat : Int) == (c.toNat : Int)) rfl rfl rfl (fun hb => ?_) (fun hb => ?_) ?_; (focus ((refine zNp ?_); (refine zGo ?_); exact ⟨by (exact zLe), StLe.refl _⟩)); (focus ((refine zNp ?_); (refine zGo ?_); have hlt : i < s.length := (by simp at hb; omega); (refine pl_on rfl rfl (op_of (v_indexs (c := s.getD i 0) hT rfl rfl rfl rfl (by omega) (get_getD hlt)) ?_); (refine zNp ?_)); (refine zGo ?_); exact ⟨by (exact zLe), StLe.refl _⟩)); (refine zNp ?_); (refine zGo ?_))
      refine pw_cond rfl (fun h2 => ?_) (fun h2 => ?_)
      · (refine zGo ?_)
        (refine pl_op rfl (op_of (v_substr hT rfl rfl rfl rfl rfl (by omega) (by omega) (by omega)) ?_); (refine zNp ?_))
        (refine zGo ?_)
        (refine pl_append (b := 16) hT hD rfl rfl rfl rfl rfl rfl rfl rfl (.inl (Nat.zero_lt_succ _)) rfl rfl (by simp; omega) (fun cap' _ hcap => ?_); (refine zNp ?_))
        (refine zGo ?_)
        refine ⟨(i + 1, out ++ [sub s f i], i + 1, cap'), ⟨by show (out ++ [_]).length ≤ i + 1; simp; omega, ?_⟩, by show _ - (i + 1) < _ - i; omega, ?_, ?_⟩
        · by_cases hlt : i < s.length
          · refine .inl ⟨hlt, Nat.le_refl _, ?_⟩
            have h3 : ((s.getD i 0) == c) = true := by
              rw [← byte_eq]
              have h2' := h2
              rw [show ((i : Int) == (s.length : Int)) = false by simp; omega] at h2'
              exact h2'
            rw [drop_getD hlt, partsA, h3] at hw
            rw [← hw]
            simp [sub_nil]
          · have e : i = s.length := by omega
            subst e
            refine .inr ⟨rfl, ?_⟩
            rw [← hw, List.drop_length]; rfl
        · simp only [List.map_append, List.length_append]
          (exact zLe)
        · simp only [List.map_append]
          (exact zLes)
      · (refine zGo ?_)
        have h2' : ((i : Int) == (s.length : Int)) = false ∧ (((s.getD i 0).toNat : Int) == (c.toNat : Int)) = false := Bool.or_eq_false_iff.1 h2
        have hlt : i < s.length := by have := h2'.1; simp at this; omega
        have h3 : ((s.getD i 0) == c) = false := by rw [← byte_eq]; exact h2'.2
        refine ⟨(i + 1, out, f, cap), ⟨by show out.length ≤ i + 1; omega, .inl ⟨hlt, by show f ≤ i + 1; omega, ?_⟩⟩, by show _ - (i + 1) < _ - i; omega, by (exact zLe), by (exact zLes)⟩
        rw [drop_getD hlt, partsA, h3] at hw
        rw [← hw, sub_snoc (get_getD hlt) hf]
    · omega
  · simp only [decide_eq_false_iff_not] at h1
    obtain ⟨h, -⟩ | ⟨-, rfl⟩ := hw
    · omega
    · (refine zGo ?_)
      exact ret0 _ _ rfl rfl (.inr (.inr (.inr (.inl ⟨_, _, _, _, _, _, rfl, rfl, rfl, rfl, rfl⟩)))) rfl
theorem isBlank_eq (b : UInt8) : (((b.toNat : Int) == 32) || ((b.toNat : Int) == 9)) = isBlank b := by
  unfold isBlank
  rw [← byte_eq b 32, ← byte_eq b 9]; rfl
theorem c95 (b : UInt8) : PFun Tryz.prog Gl 95 [.int .u8 b.toNat] fun r => r = .bool (isBlank b) := by
  refine PFun.of hT Tryz.func95 rfl fun B hD => ?_
  refine pw_norm rfl ?_
  (refine zGo ?_)
  (refine pl_or 3 5 8 ((b.toNat : Int) == 9) rfl rfl rfl (fun hb => ?_) (fun hb => ?_) ?_; (focus ((refine zNp ?_); (refine zGo ?_); exact ⟨by (exact zLe), StLe.refl _⟩)); (focus ((refine zNp ?_); (refine zGo ?_); exact ⟨by (exact zLe), StLe.refl _⟩)); (refine zNp ?_); (refine zGo ?_))
  refine ret1 _ rfl ?_ rfl
  rw [← isBlank_eq]
end Go.Proofs.YtdehdgbdcfkpbaaGreatDoor
