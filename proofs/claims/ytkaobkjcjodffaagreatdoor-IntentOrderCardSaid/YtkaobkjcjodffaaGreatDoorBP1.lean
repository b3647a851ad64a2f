/-
 Plain laws of lines: the words of a line and the parts of a text, as the program and the reference find them.
 Plain laws of numbers and addresses: both ways of reading them agree.
 Plain laws of prefixes: both ways of saying that an address lies in one agree.
 Plain laws of addresses and prefixes in texts: both ways of reading them agree.
-/
import Derived.Test.YtkaobkjcjodffaaGreatDoorBB6
import Derived.Test.YtkaobkjcjodffaaGreatDoorAPwGlob
set_option maxHeartbeats 20000000
namespace Go.Proofs.YtkaobkjcjodffaaGreatDoor
open Go Go.Pw
section
def isBlank (c : UInt8) : Bool := c == 32 || c == 9
def isSep (c : UInt8) : Bool := c == 44 || c == 61
def isWord (c : UInt8) : Bool := !isBlank c && !isSep c
def flush : Option Str → List Str
 | some w => [w]
 | none => []
def tk : Str → Option Str → List Str
 | [], cur => flush cur
 | c :: s, cur => match c == 35 with
  | true => flush cur
  | false => match isBlank c with
   | true => flush cur ++ tk s none
   | false => match isSep c with
    | true => flush cur ++ [c] :: tk s none
    | false => tk s (some (cur.getD [] ++ [c]))
theorem sub_snoc {s : Str} {k i : Nat} {c : UInt8} (h : s[i]? = some c) (hk : k ≤ i) : sub s k (i + 1) = sub s k i ++ [c] := by
 unfold sub
 obtain ⟨hi, rfl⟩ := List.getElem?_eq_some_iff.1 h
 rw [List.take_succ_eq_append_getElem hi, List.drop_append_of_le_length (by simp; omega)]
theorem wrun_tk (s : Str) : ∀ (n i : Nat) (out : List Str) (st : Option Nat), s.length = i + n → (∀ k, st = some k → k < i) → wrun s n i out st = out ++ tk (s.drop i) (st.map fun k => sub s k i)
 | 0, i, out, st, hn, hs => by
  rw [List.drop_eq_nil_of_le (by omega)]
  cases st <;> simp [wrun, endW, tk, flush]
 | n + 1, i, out, st, hn, hs => by
  have hi : i < s.length := by omega
  have hg : s[i]? = some s[i] := List.getElem?_eq_getElem hi
  rw [List.drop_eq_getElem_cons hi]
  generalize s[i] = c at hg
  have he : endW s out st i = out ++ flush (st.map fun k => sub s k i) := by cases st <;> simp [endW, flush]
  rw [wrun]
  simp only [hg]
  unfold tk
  by_cases h1 : c = 35
  ·rw [if_pos h1, he]; simp [h1]
  rw [if_neg h1, show (c == 35) = false by simpa using h1]
  dsimp only
  by_cases h2 : c = 32 ∨ c = 9
  ·rw [if_pos h2, wrun_tk s n (i + 1) _ none (by omega) (by intro k h; cases h), he, show isBlank c = true by rcases h2 with rfl | rfl <;> decide]
   simp
  rw [if_neg h2, show isBlank c = false by simp [isBlank]; exact ⟨fun h => h2 (.inl h), fun h => h2 (.inr h)⟩]
  dsimp only
  by_cases h3 : c = 44 ∨ c = 61
  ·rw [if_pos h3, wrun_tk s n (i + 1) _ none (by omega) (by intro k h; cases h), he, show isSep c = true by rcases h3 with rfl | rfl <;> decide, sub_snoc hg (Nat.le_refl _)]
   simp [sub]
  rw [if_neg h3, show isSep c = false by simp [isSep]; exact ⟨fun h => h3 (.inl h), fun h => h3 (.inr h)⟩]
  dsimp only
  rw [wrun_tk s n (i + 1) _ _ (by omega) (by
   intro k h
   cases st with
   | none => simp at h; omega
   | some j => have := hs j rfl; simp at h; omega)]
  congr 2
  cases st with
  | none => show some (sub s i (i + 1)) = some ([] ++ [c]); rw [sub_snoc hg (Nat.le_refl _)]; simp [sub]
  | some j => simp [sub_snoc hg (Nat.le_of_lt (hs j rfl))]
theorem words_tk (s : Str) : words s = tk s none := by
 rw [words, wrun_tk s s.length 0 [] none (by omega) (by intro k h; cases h)]; simp
def rw1 : Nat → Str → List Str
 | 0, _ => []
 | _ + 1, [] => []
 | n + 1, c :: s => match isBlank c with
  | true => rw1 n s
  | false => match isSep c with
   | true => [c] :: rw1 n s
   | false => (c :: s.takeWhile isWord) :: rw1 n (s.dropWhile isWord)
def rwords (s : Str) : List Str := rw1 s.length s
theorem dropWhile_len {α : Type} (p : α → Bool) (l : List α) : (l.dropWhile p).length ≤ l.length := List.IsSuffix.length_le (List.dropWhile_suffix p)
theorem rw1_fuel : ∀ (n m : Nat) (s : Str), s.length ≤ n → s.length ≤ m → rw1 n s = rw1 m s
 | 0, m, [], _, _ => by cases m <;> rfl
 | n + 1, 0, [], _, _ => rfl
 | n + 1, m + 1, [], _, _ => rfl
 | n + 1, m + 1, c :: s, h1, h2 => by
  simp only [List.length_cons] at h1 h2
  have := dropWhile_len isWord s
  unfold rw1
  rw [rw1_fuel n m s (by omega) (by omega), rw1_fuel n m (s.dropWhile isWord) (by omega) (by omega)]
theorem rwords_cons (c : UInt8) (s : Str) : rwords (c :: s) = match isBlank c with
  | true => rwords s
  | false => match isSep c with
   | true => [c] :: rwords s
   | false => (c :: s.takeWhile isWord) :: rwords (s.dropWhile isWord) := by
 unfold rwords
 rw [List.length_cons, rw1, rw1_fuel s.length (s.dropWhile isWord).length (s.dropWhile isWord) (dropWhile_len _ _) (Nat.le_refl _)]
def noHash (c : UInt8) : Bool := !(c == 35)
theorem tk_some : ∀ (s : Str) (w : Str), tk s (some w) = (w ++ (s.takeWhile noHash).takeWhile isWord) :: rwords ((s.takeWhile noHash).dropWhile isWord)
  ∧ tk s none = rwords (s.takeWhile noHash) := by
 intro s
 induction s with
 | nil => intro w; simp [tk, flush, rwords, rw1]
 | cons c s ih =>
  intro w
  unfold tk
  by_cases h1 : c = 35
  ·subst h1
   simp [flush, noHash, rwords, rw1]
  rw [show (c == 35) = false by simpa using h1, List.takeWhile_cons, show noHash c = true by simp [noHash, h1]]
  dsimp only
  cases h2 : isBlank c with
  | true =>
   have hw : isWord c = false := by simp [isWord, h2]
   simp only [if_true, List.takeWhile_cons, List.dropWhile_cons, hw, Bool.false_eq_true, if_false]
   rw [rwords_cons, h2]
   simp [flush, (ih []).2]
  | false =>
   cases h3 : isSep c with
   | true =>
    have hw : isWord c = false := by simp [isWord, h2, h3]
    simp only [if_true, List.takeWhile_cons, List.dropWhile_cons, hw, Bool.false_eq_true, if_false]
    rw [rwords_cons, h2, h3]
    simp [flush, (ih []).2]
   | false =>
    have hw : isWord c = true := by simp [isWord, h2, h3]
    simp only [if_true, List.takeWhile_cons, List.dropWhile_cons, hw]
    rw [rwords_cons, h2, h3]
    simp [(ih (w ++ [c])).1, (ih [c]).1]
theorem words_rw (s : Str) : words s = rwords (s.takeWhile noHash) := by rw [words_tk, (tk_some s []).2]
def partsA (c : UInt8) : Str → Str → List Str
 | [], cur => [cur]
 | b :: s, cur => match b == c with
  | true => cur :: partsA c s []
  | false => partsA c s (cur ++ [b])
def parts (c : UInt8) (s : Str) : List Str := partsA c s []
theorem partsA_pre (c : UInt8) : ∀ (s cur : Str), ∃ p ps, parts c s = p :: ps ∧ partsA c s cur = (cur ++ p) :: ps := by
 intro s
 induction s with
 | nil => intro cur; exact ⟨[], [], rfl, by simp [partsA]⟩
 | cons b s ih =>
  intro cur
  unfold parts
  unfold partsA
  cases h : b == c with
  | true => exact ⟨[], partsA c s [], rfl, by simp⟩
  | false =>
   obtain ⟨p, ps, h1, h2⟩ := ih (cur ++ [b])
   obtain ⟨p', ps', h3, h4⟩ := ih [b]
   rw [h1] at h3
   cases h3
   exact ⟨[b] ++ p, ps, h4, by simpa using h2⟩
theorem parts_none {c : UInt8} {s : Str} (h : c ∉ s) : ∀ cur, partsA c s cur = [cur ++ s] := by
 induction s with
 | nil => intro cur; simp [partsA]
 | cons b s ih =>
  intro cur
  simp only [List.mem_cons, not_or] at h
  rw [partsA, show (b == c) = false by simpa using fun e => h.1 e.symm]
  dsimp only
  rw [ih h.2]; simp
theorem parts_some {c : UInt8} {a b : Str} (h : c ∉ a) : ∀ cur, partsA c (a ++ c :: b) cur = (cur ++ a) :: parts c b := by
 induction a with
 | nil => intro cur; simp [partsA, parts]
 | cons x a ih =>
  intro cur
  simp only [List.mem_cons, not_or] at h
  rw [List.cons_append, partsA, show (x == c) = false by simpa using fun e => h.1 e.symm]
  dsimp only
  rw [ih h.2]; simp
theorem parts_len (c : UInt8) (s : Str) : (parts c s).length = s.count c + 1 := by
 have : ∀ (s cur : Str), (partsA c s cur).length = s.count c + 1 := by
  intro s
  induction s with
  | nil => intro cur; rfl
  | cons b s ih =>
   intro cur
   rw [partsA]
   cases h : b == c with
   | true => simp [ih, beq_iff_eq.1 h]
   | false => simp [ih, List.count_cons, h]
 exact this s []
theorem index_one (c : UInt8) : ∀ (s : Str), (c ∉ s ∧ Lib.index s [c] = -1) ∨ ∃ a b, s = a ++ c :: b ∧ c ∉ a ∧ Lib.index s [c] = (a.length : Int)
 | [] => .inl ⟨by simp, by simp [Lib.index]⟩
 | x :: s => by
  by_cases h : x = c
  ·subst h
   exact .inr ⟨[], s, rfl, by simp, by simp [Lib.index, List.isPrefixOf]⟩
  ·have hp : ([c] : List UInt8).isPrefixOf (x :: s) = false := by simp [List.isPrefixOf, Ne.symm h]
   rcases index_one c s with ⟨h1, h2⟩ | ⟨a, b, h1, h2, h3⟩
   ·refine .inl ⟨by simp [h1, Ne.symm h], ?_⟩
    rw [Lib.index, hp, h2]; rfl
   ·refine .inr ⟨x :: a, b, by rw [h1]; rfl, by simp [h2, Ne.symm h], ?_⟩
    rw [Lib.index, hp, h3]
    have : ¬ ((a.length : Int) == -1) = true := by simp
    simp [this]
theorem ext_toList (b : ByteArray) (i j : Nat) : (b.extract i j).data.toList = (b.data.toList.take j).drop i := by
 rw [ByteArray.data_extract, Array.toList_extract]
 simp [List.extract, List.drop_take]
theorem splitB_parts (c : UInt8) : ∀ (k : Nat) (b : ByteArray), b.data.toList.count c = k → (Lib.splitB (bytes [c]) 0 k b).map (fun b => b.data.toList) = parts c b.data.toList
 | 0, b, hk => by
  have hn : c ∉ b.data.toList := by rw [← List.count_eq_zero]; exact hk
  rw [Lib.splitB_zero, parts, parts_none hn]; simp
 | k + 1, b, hk => by
  have hm : c ∈ b.data.toList := by rw [← List.count_pos_iff]; omega
  rcases index_one c b.data.toList with ⟨h1, _⟩ | ⟨x, y, h1, h2, h3⟩
  ·exact absurd hm h1
  have hix : Lib.indexB b (bytes [c]) = (x.length : Int) := h3
  rw [Lib.splitB_hit (bytes [c]) 0 k b x.length hix, List.map_cons]
  have e1 : (bytes [c]).size = 1 := rfl
  have e2 : (b.extract (x.length + 1) b.size).data.toList = y := by
   rw [ext_toList, h1]
   have : b.size = (x ++ c :: y).length := by rw [← h1]; exact Array.length_toList.symm
   rw [this, List.take_length, List.drop_append]
   simp
  have e3 : (b.extract 0 (x.length + 0)).data.toList = x := by
   rw [ext_toList, h1]; simp
  rw [e1, e3, splitB_parts c k _ (by rw [e2]; rw [h1] at hk; simp [List.count_append, List.count_eq_zero.2 h2] at hk; exact hk), e2, h1]
  exact (parts_some h2 []).symm
theorem splitAt_parts (c : UInt8) (s : Str) : splitAt c s = parts c s := by
 unfold splitAt
 exact splitB_parts c _ (bytes s) (Lib.count_one c s).symm
theorem part_len' (c : UInt8) (s : Str) : ∀ p ∈ parts c s, p.length ≤ s.length := by
 intro p hp
 rw [← splitAt_parts] at hp
 exact splitAt_size hp
theorem parts_head (c : UInt8) (s : Str) : (parts c s).getD 0 [] = s.takeWhile (fun x => !(x == c)) := by
 have : ∀ (s cur : Str), (partsA c s cur).getD 0 [] = cur ++ s.takeWhile (fun x => !(x == c)) := by
  intro s
  induction s with
  | nil => intro cur; simp [partsA]
  | cons b s ih =>
   intro cur
   rw [partsA, List.takeWhile_cons]
   cases h : b == c with
   | true => simp
   | false => dsimp only; rw [ih]; simp
 exact (this s []).trans (List.nil_append _)
variable {Gl : Glob}
attribute [local irreducible] PW PWL OpP PCalls PWO
theorem sub_nil (s : Str) (k : Nat) : sub s k k = [] := by unfold sub; exact List.drop_eq_nil_of_le (by simp; omega)
theorem byte_eq (a b : UInt8) : (((a.toNat : Int)) == ((b.toNat : Int))) = (a == b) := by
 rw [Bool.eq_iff_iff, beq_iff_eq, beq_iff_eq]
 constructor
 ·intro h; exact UInt8.toNat_inj.1 (by omega)
 ·rintro rfl; rfl
theorem get_getD {s : Str} {i : Nat} (h : i < s.length) : s[i]? = some (s.getD i 0) := by rw [List.getD, List.getElem?_eq_getElem h]; rfl
theorem drop_getD {s : Str} {i : Nat} (h : i < s.length) : s.drop i = s.getD i 0 :: s.drop (i + 1) := by
 rw [List.drop_eq_getElem_cons h, List.getD, List.getElem?_eq_getElem h]; rfl
theorem c58 (s : Str) (c : UInt8) (hl : Small s) : PFun Tryz.prog Gl 51 [.str s, .int .u8 c.toNat] fun r => r = .sl ((parts c s).map .str) := by
 refine PFun.of hT Tryz.func51 rfl fun B hD => ?_
 refine pw_norm rfl ?_
 unfold Small at hl
 (refine zGo ?_)
 refine pw_ghost 1 ?_
 refine pw_norm rfl ?_
 refine pw_for hD (fun a : Nat × List Str × Nat × Nat => [(5, .msl 1 0 0 (a.2.1.map PV.str).length a.2.2.2), (6, .int .i64 a.2.2.1), (7, .int .i64 a.1)]) (fun a => [.arr 1 (a.2.1.map .str) a.2.2.2])
  (fun a => a.2.1.length ≤ a.1 ∧ ((a.1 ≤ s.length ∧ a.2.2.1 ≤ a.1 ∧ a.2.1 ++ partsA c (s.drop a.1) (sub s a.2.2.1 a.1) = parts c s) ∨ (a.1 = s.length + 1 ∧ a.2.1 = parts c s))) (fun a => s.length + 1 - a.1) (0, [], 0, 0)
  ⟨Nat.zero_le _, .inl ⟨Nat.zero_le _, Nat.le_refl _, by simp [sub, parts]⟩⟩ 1 rfl (fun _ => rfl) ⟨.inl rfl, trivial⟩ (fun _ => rfl) (fun _ => rfl) zLe ?_
 rintro ⟨i, out, f, cap⟩ ⟨ho, hw⟩
 dsimp only at ho hw ⊢
 (refine zGo ?_)
 refine pw_cond rfl (fun h1 => ?_) (fun h1 => ?_)
 ·simp only [decide_eq_true_eq] at h1
  have hi : i ≤ s.length := by omega
  obtain ⟨-, hf, hw⟩ | ⟨e, -⟩ := hw
  ·(refine zGo ?_)
   (refine pl_or 6 18 24 (((s.getD i 0).toNat : Int) == (c.toNat : Int)) rfl rfl rfl (fun hb => ?_) (fun hb => ?_) ?_; (focus ((refine zNp ?_); (refine zGo ?_); exact ⟨zLe, StLe.refl _⟩)); (focus ((refine zNp ?_); (refine zGo ?_); have hlt : i < s.length := (by simp at hb; omega); (refine pl_on rfl rfl (op_of (v_indexs (c := s.getD i 0) hT rfl rfl rfl rfl (by omega) (get_getD hlt)) ?_); (refine zNp ?_)); (refine zGo ?_); exact ⟨zLe, StLe.refl _⟩)); (refine zNp ?_); (refine zGo ?_))
   refine pw_cond rfl (fun h2 => ?_) (fun h2 => ?_)
   ·(refine zGo ?_)
    (refine pl_op rfl (op_of (v_substr hT rfl rfl rfl rfl rfl (by omega) (by omega) (by omega)) ?_); (refine zNp ?_))
    (refine zGo ?_)
    (refine pl_append (b := 16) hT hD rfl rfl rfl rfl rfl rfl rfl rfl (.inl (Nat.zero_lt_succ _)) rfl rfl (by simp; omega) (fun cap' _ hcap => ?_); (refine zNp ?_))
    (refine zGo ?_)
    refine ⟨(i + 1, out ++ [sub s f i], i + 1, cap'), ⟨by show (out ++ [_]).length ≤ i + 1; simp; omega, ?_⟩, by show _ - (i + 1) < _ - i; omega, ?_, ?_⟩
    ·by_cases hlt : i < s.length
     ·refine .inl ⟨hlt, Nat.le_refl _, ?_⟩
      have h3 : ((s.getD i 0) == c) = true := by
       rw [← byte_eq]
       have h2' := h2
       rw [show ((i : Int) == (s.length : Int)) = false by simp; omega] at h2'
       exact h2'
      rw [drop_getD hlt, partsA, h3] at hw
      rw [← hw]
      simp [sub_nil]
     ·have e : i = s.length := by omega
      subst e
      refine .inr ⟨rfl, ?_⟩
      rw [← hw, List.drop_length]; rfl
    ·simp only [List.map_append, List.length_append]
     (exact zLe)
    ·simp only [List.map_append]
     (exact zLes)
   ·(refine zGo ?_)
    have h2' : ((i : Int) == (s.length : Int)) = false ∧ (((s.getD i 0).toNat : Int) == (c.toNat : Int)) = false := Bool.or_eq_false_iff.1 h2
    have hlt : i < s.length := by have := h2'.1; simp at this; omega
    have h3 : ((s.getD i 0) == c) = false := by rw [← byte_eq]; exact h2'.2
    refine ⟨(i + 1, out, f, cap), ⟨by show out.length ≤ i + 1; omega, .inl ⟨hlt, by show f ≤ i + 1; omega, ?_⟩⟩, by show _ - (i + 1) < _ - i; omega, zLe, zLes⟩
    rw [drop_getD hlt, partsA, h3] at hw
    rw [← hw, sub_snoc (get_getD hlt) hf]
  ·omega
 ·simp only [decide_eq_false_iff_not] at h1
  obtain ⟨h, -⟩ | ⟨-, rfl⟩ := hw
  ·omega
  ·(refine zGo ?_)
   exact ret0 _ _ rfl rfl (.inr (.inr (.inr (.inl ⟨_, _, _, _, _, _, rfl, rfl, rfl, rfl, rfl⟩)))) rfl
theorem isBlank_eq (b : UInt8) : (((b.toNat : Int) == 32) || ((b.toNat : Int) == 9)) = isBlank b := by
 unfold isBlank
 rw [← byte_eq b 32, ← byte_eq b 9]; rfl
theorem c95 (b : UInt8) : PFun Tryz.prog Gl 106 [.int .u8 b.toNat] fun r => r = .bool (isBlank b) := by
 refine PFun.of hT Tryz.func106 rfl fun B hD => ?_
 refine pw_norm rfl ?_
 (refine zGo ?_)
 (refine pl_or 3 5 8 ((b.toNat : Int) == 9) rfl rfl rfl (fun hb => ?_) (fun hb => ?_) ?_; (focus ((refine zNp ?_); (refine zGo ?_); exact ⟨zLe, StLe.refl _⟩)); (focus ((refine zNp ?_); (refine zGo ?_); exact ⟨zLe, StLe.refl _⟩)); (refine zNp ?_); (refine zGo ?_))
 refine ret1 _ rfl ?_ rfl
 rw [← isBlank_eq]
def rdig (s : Str) : Bool := !(s.any dbad) && (!(s == []) && (((s.length : Int) == 1) || (((s.headD 0).toNat : Int) != 48)))
theorem digs_fin : ∀ n : Fin 256, digs.contains (UInt8.ofNat n.val) = !(dbad (UInt8.ofNat n.val)) := by decide +kernel
theorem digs_bad (c : UInt8) : digs.contains c = !(dbad c) := by
 have := digs_fin ⟨c.toNat, c.toNat_lt⟩
 simpa using this
theorem dropWhile_nil {p : UInt8 → Bool} {l : Str} : l.dropWhile p = [] ↔ l.all p = true := by
 induction l with
 | nil => simp
 | cons c l ih =>
  rw [List.dropWhile_cons, List.all_cons]
  cases h : p c <;> simp [ih]
theorem trim_nil (s : Str) : (Lib.trimS s digs == []) = !(s.any dbad) := by
 have h1 : s.all (digs.contains ·) = !(s.any dbad) := by
  rw [List.all_eq_not_any_not]; congr 2; funext c; rw [digs_bad]; simp
 rw [← h1, Bool.eq_iff_iff, beq_iff_eq]
 unfold Lib.trimS Lib.trimLeftS Lib.trimRightS
 constructor
 ·intro h
  have h2 := dropWhile_nil.1 h
  rw [List.all_reverse] at h2
  have h3 : s.reverse.dropWhile (digs.contains ·) = [] := by
   cases h4 : s.reverse.dropWhile (digs.contains ·) with
   | nil => rfl
   | cons c l =>
    have h5 : (s.reverse.dropWhile (digs.contains ·)).head? = some c := by rw [h4]; rfl
    have h6 := List.head?_dropWhile_not (digs.contains ·) s.reverse
    rw [h4] at h6 h2
    simp only [List.head?_cons, List.all_cons, Bool.and_eq_true] at h6 h2
    rw [h2.1] at h6
    simp at h6
  have := dropWhile_nil.1 h3
  rwa [List.all_reverse] at this
 ·intro h
  have h3 : s.reverse.dropWhile (digs.contains ·) = [] := dropWhile_nil.2 (by rw [List.all_reverse]; exact h)
  rw [h3]; rfl
theorem digitsB_eq (s : Str) : digitsB s = rdig s := by
 unfold digitsB rdig
 rw [trim_nil, Bool.and_comm]
 congr 1
 cases s with
 | nil => rfl
 | cons c l =>
  cases l with
  | nil =>
   by_cases h : c = 48
   ·subst h; rfl
   ·have : ¬ c.toNat = 48 := fun e => h (UInt8.toNat_inj.1 e)
    simp; omega
  | cons d l =>
   have h1 : ((c :: d :: l) == ([48] : Str)) = false := by simp
   have h2 : (((c :: d :: l).length : Int) == 1) = false := by simp; omega
   rw [h1, h2]
def dvalF (n : Int) (s : Str) : Int := s.foldl (fun n c => 10 * n + ((c.toNat : Int) - 48)) n
def rbad (most n : Int) (c : UInt8) : Bool := (dbad c || decide (n > (most - ((c.toNat : Int) - 48)).tdiv 10)) || decide (most < ((c.toNat : Int) - 48))
def rrun (most : Int) : Str → Int → Option Int
 | [], n => some n
 | c :: s, n => if rbad most n c = true then none else rrun most s (10 * n + ((c.toNat : Int) - 48))
def rhead (s : Str) : Bool := (s == []) || (decide ((s.length : Int) > 1) && (((s.headD 0).toNat : Int) == 48))
def readO (o : Option Int) : Int × Bool := match o with | some v => (v, true) | none => (0, false)
def rread (s : Str) (most : Int) : Int × Bool := if rhead s then (0, false) else readO (rrun most s 0)
theorem dbad_ok {c : UInt8} (h : dbad c = false) : 48 ≤ c.toNat ∧ c.toNat ≤ 57 := by
 simp only [dbad, Bool.or_eq_false_iff, decide_eq_false_iff_not] at h
 omega
theorem tdiv10 {a : Int} (h : 0 ≤ a) : a.tdiv 10 = a / 10 := Int.tdiv_eq_ediv_of_nonneg h
theorem rbad_ok {most n : Int} {c : UInt8} (_hn : 0 ≤ n) (h : rbad most n c = false) : dbad c = false ∧ 10 * n + ((c.toNat : Int) - 48) ≤ most := by
 simp only [rbad, Bool.or_eq_false_iff, decide_eq_false_iff_not] at h
 obtain ⟨⟨h1, h2⟩, h3⟩ := h
 have h4 := dbad_ok h1
 rw [tdiv10 (by omega)] at h2
 exact ⟨h1, by omega⟩
theorem rbad_no {most n : Int} {c : UInt8} (hd : dbad c = false) (h : 10 * n + ((c.toNat : Int) - 48) ≤ most) (hn : 0 ≤ n) : rbad most n c = false := by
 have h4 := dbad_ok hd
 simp only [rbad, Bool.or_eq_false_iff, decide_eq_false_iff_not]
 rw [tdiv10 (by omega)]
 exact ⟨⟨hd, by omega⟩, by omega⟩
theorem dvalF_ge : ∀ (s : Str) (n : Int), 0 ≤ n → s.any dbad = false → n ≤ dvalF n s
 | [], n, _, _ => Int.le_refl _
 | c :: s, n, hn, h => by
  rw [List.any_cons, Bool.or_eq_false_iff] at h
  have h4 := dbad_ok h.1
  have := dvalF_ge s (10 * n + ((c.toNat : Int) - 48)) (by omega) h.2
  show n ≤ dvalF (10 * n + ((c.toNat : Int) - 48)) s
  omega
theorem dvalF_nil (n : Int) : dvalF n [] = n := by unfold dvalF; exact List.foldl_nil
theorem rrun_eq (most : Int) (s : Str) : ∀ (n : Int), 0 ≤ n → n ≤ most → rrun most s n = if (!(s.any dbad) && decide (dvalF n s ≤ most)) = true then some (dvalF n s) else none := by
 induction s with
 | nil =>
  intro n _ h
  rw [rrun, dvalF_nil, List.any_nil, if_pos (by rw [decide_eq_true h]; rfl)]
 | cons c s ih =>
  intro n hn h
  rw [rrun, List.any_cons]
  have e : dvalF n (c :: s) = dvalF (10 * n + ((c.toNat : Int) - 48)) s := rfl
  rw [e]
  cases hd : dbad c with
  | true => simp [rbad, hd]
  | false =>
   have h4 := dbad_ok hd
   cases hb : rbad most n c with
   | false =>
    have h5 := rbad_ok hn hb
    rw [if_neg Bool.false_ne_true, ih _ (by omega) h5.2, Bool.false_or]
   | true =>
    rw [if_pos rfl, if_neg]
    intro hh
    simp only [Bool.false_or, Bool.and_eq_true, Bool.not_eq_true', decide_eq_true_eq] at hh
    have h6 := dvalF_ge s (10 * n + ((c.toNat : Int) - 48)) (by omega) hh.1
    have h7 := rbad_no (most := most) hd (by omega) hn
    rw [h7] at hb; cases hb
theorem dval_F : ∀ (s : Str) (n : Nat), s.any dbad = false → ((s.foldl (fun n c => 10 * n + (c.toNat - 48)) n : Nat) : Int) = dvalF n s
 | [], n, _ => by simp [dvalF]
 | c :: s, n, h => by
  rw [List.any_cons, Bool.or_eq_false_iff] at h
  have h4 := dbad_ok h.1
  have h5 := dval_F s (10 * n + (c.toNat - 48)) h.2
  rw [List.foldl_cons, h5]
  unfold dvalF
  rw [List.foldl_cons]
  congr 1
  omega
theorem rread_eq (s : Str) (most : Int) (h0 : 0 ≤ most) : rread s most = if (!(rhead s) && (!(s.any dbad) && decide ((dval s : Int) ≤ most))) = true then ((dval s : Int), true) else (0, false) := by
 unfold rread
 rw [rrun_eq most s 0 (Int.le_refl _) h0]
 cases h1 : rhead s with
 | true => simp
 | false =>
  cases h2 : s.any dbad with
  | true => simp [readO]
  | false =>
   have h3 : (dval s : Int) = dvalF 0 s := dval_F s 0 h2
   rw [← h3]
   cases h4 : decide ((dval s : Int) ≤ most) <;> simp [readO]
theorem dvalF_pow : ∀ (s : Str) (n : Int), 0 ≤ n → s.any dbad = false → n * 10 ^ s.length ≤ dvalF n s
 | [], n, _, _ => by simp [dvalF]
 | c :: s, n, hn, h => by
  rw [List.any_cons, Bool.or_eq_false_iff] at h
  have h4 := dbad_ok h.1
  have h5 := dvalF_pow s (10 * n + ((c.toNat : Int) - 48)) (by omega) h.2
  show n * 10 ^ (s.length + 1) ≤ dvalF (10 * n + ((c.toNat : Int) - 48)) s
  refine Int.le_trans ?_ h5
  rw [Int.pow_succ, Int.mul_comm (10 ^ s.length : Int) 10, ← Int.mul_assoc]
  exact Int.mul_le_mul_of_nonneg_right (by omega) (Int.pow_nonneg (by decide))
theorem long_big {s : Str} (hl : 19 < s.length) (hh : ¬ (s.headD 0).toNat = 48) (hd : s.any dbad = false) : 9223372036854775807 < (dval s : Int) := by
 cases s with
 | nil => simp at hl
 | cons c s =>
  have h3 : (dval (c :: s) : Int) = dvalF 0 (c :: s) := dval_F _ 0 hd
  rw [List.any_cons, Bool.or_eq_false_iff] at hd
  have h4 := dbad_ok hd.1
  have h5 : ¬ c.toNat = 48 := hh
  have h6 := dvalF_pow s ((c.toNat : Int) - 48) (by omega) hd.2
  have h7 : (10 : Int) ^ 19 ≤ 10 ^ s.length := by
   have : (10 : Nat) ^ 19 ≤ 10 ^ s.length := Nat.pow_le_pow_right (by decide) (by simp at hl; omega)
   exact_mod_cast this
  have e : dvalF 0 (c :: s) = dvalF ((c.toNat : Int) - 48) s := by
   show dvalF (10 * 0 + ((c.toNat : Int) - 48)) s = _
   rw [Int.mul_zero, Int.zero_add]
  rw [h3, e]
  have h8 : (1 : Int) * 10 ^ s.length ≤ ((c.toNat : Int) - 48) * 10 ^ s.length := Int.mul_le_mul_of_nonneg_right (by omega) (Int.pow_nonneg (by decide))
  have h9 : (9223372036854775807 : Int) < 10 ^ 19 := by decide
  omega
theorem number_eq (s : Str) (least most : Int) (hm : most ≤ 9223372036854775807) : number s least most =
  if !(rdig s) || decide (most < 0) then (0, false) else if !(rread s most).2 || decide ((rread s most).1 < least) then (0, false) else ((rread s most).1, true) := by
 unfold number
 by_cases h0 : most < 0
 ·have : nhead s most = true := by simp [nhead, h0]
  simp [this, h0]
 have hd0 : decide (most < 0) = false := by simpa using h0
 rw [rread_eq s most (by omega), hd0, Bool.or_false]
 have hnh : nhead s most = (rhead s || decide ((s.length : Int) > 19)) := by
  simp only [nhead, rhead, hd0, Bool.or_false]
  cases s == [] <;> cases decide ((s.length : Int) > 19) <;> simp
 have hrd : rdig s = (!(s.any dbad) && !(rhead s)) := by
  simp only [rdig, rhead]
  cases s with
  | nil => rfl
  | cons c l =>
   congr 1
   cases l with
   | nil => simp
   | cons d l =>
    have e1 : (((c :: d :: l).length : Int) == 1) = false := by simp; omega
    have e2 : decide (((c :: d :: l).length : Int) > 1) = true := by simp; omega
    rw [e1, e2]; rfl
 rw [hnh, hrd]
 cases h1 : rhead s with
 | true => simp
 | false =>
  cases h2 : s.any dbad with
  | true => simp
  | false =>
   by_cases h3 : (s.length : Int) > 19
   ·have h4 : 9223372036854775807 < (dval s : Int) := by
     refine long_big (by omega) ?_ h2
     simp only [rhead, Bool.or_eq_false_iff, Bool.and_eq_false_iff, decide_eq_false_iff_not] at h1
     rcases h1.2 with h5 | h5
     ·omega
     ·intro e
      rw [e] at h5
      exact absurd h5 (by decide)
    have h5 : decide ((dval s : Int) ≤ most) = false := by simp; omega
    simp [h3, h5]
   ·have h4 : decide ((s.length : Int) > 19) = false := by simpa using h3
    rw [h4]
    by_cases h5 : (dval s : Int) ≤ most
    ·have : ¬ (dval s : Int) > most := by omega
     simp [h5, this]
    ·have : (dval s : Int) > most := by omega
     simp [h5, this]
theorem mask_nat (k : Nat) (hk : k ≤ 32) : mask (32 - k : Int) = ((2 ^ 32 - 2 ^ k : Nat) : Int) := by
 unfold mask
 rw [show (min ((32 : Int) - (32 - (k : Int))).toNat 32) = k by omega, IntKind.wrap_u32]
 have h1 : (2 : Nat) ^ k ≤ 2 ^ 32 := Nat.pow_le_pow_right (by omega) hk
 have h4 : 0 < 2 ^ k := Nat.two_pow_pos k
 have h5 : (2 : Int) ^ k = ((2 ^ k : Nat) : Int) := (Int.natCast_pow 2 k).symm
 rw [h5]
 generalize (2 : Nat) ^ k = q at h1 h4
 omega
theorem ofInt_nat (n : Nat) : (BitVec.ofInt 32 (n : Int)).toNat = n % 2 ^ 32 := by
 rw [BitVec.ofInt_natCast, BitVec.toNat_ofNat]
theorem andN_mask (a k : Nat) (ha : a < 2 ^ 32) (hk : k ≤ 32) : andN (a : Int) (mask (32 - k : Int)) = ((a % 2 ^ k : Nat) : Int) := by
 unfold andN
 have h0 : 0 < 2 ^ k := Nat.two_pow_pos k
 have h2 : (2 : Nat) ^ k ≤ 2 ^ 32 := Nat.pow_le_pow_right (by omega) hk
 have h1 : (2 : Nat) ^ 32 - 2 ^ k < 2 ^ 32 := by omega
 rw [mask_nat k hk, BitVec.toNat_and, BitVec.toNat_not, ofInt_nat, ofInt_nat, Nat.mod_eq_of_lt ha, Nat.mod_eq_of_lt h1, show 2 ^ 32 - 1 - (2 ^ 32 - 2 ^ k) = 2 ^ k - 1 by omega, Nat.and_two_pow_sub_one_eq_mod]
 refine IntWalk.u32_in _ ⟨by omega, ?_⟩
 have : a % 2 ^ k ≤ a := Nat.mod_le _ _
 omega
theorem rsize_nat (k : Nat) (hk : k ≤ 32) : rsize (32 - k : Int) = ((2 ^ k : Nat) : Int) := by
 unfold rsize
 have h2 : (2 : Nat) ^ k ≤ 2 ^ 32 := Nat.pow_le_pow_right (by omega) hk
 rw [show (min ((32 : Int) - (32 - (k : Int))).toNat 64) = k by omega, Int.one_mul]
 have h5 : (2 : Int) ^ k = ((2 ^ k : Nat) : Int) := (Int.natCast_pow 2 k).symm
 rw [h5]
 generalize (2 : Nat) ^ k = q at h2
 exact IntWalk.u64_in _ ⟨by omega, by omega⟩
theorem pfx_nat {p : TPfx} (h : 0 ≤ p.addr ∧ p.addr < 4294967296) (hb : 0 ≤ p.bits ∧ p.bits ≤ 32) : ∃ n k : Nat, n < 2 ^ 32 ∧ k ≤ 32 ∧ p.addr = n ∧ p.bits = 32 - (k : Int) :=
 ⟨p.addr.toNat, (32 - p.bits).toNat, by omega, by omega, by omega, by omega⟩
theorem valid_eq (p : TPfx) (h : 0 ≤ p.addr ∧ p.addr < 4294967296) : pvalid p = rvalid p := by
 unfold pvalid rvalid
 by_cases hb : 0 ≤ p.bits ∧ p.bits ≤ 32
 ·obtain ⟨n, k, hn, hk, ea, eb⟩ := pfx_nat h hb
  have h5 : (((n : Int)).tmod ((2 ^ k : Nat) : Int)) = ((n % 2 ^ k : Nat) : Int) := rfl
  rw [ea, eb, andN_mask n k hn hk, rsize_nat k hk, IntWalk.u64_in _ (by omega), h5]
 ·by_cases h0 : 0 ≤ p.bits
  ·have h1 : ¬ p.bits ≤ 32 := fun h => hb ⟨h0, h⟩
   simp [h1]
  ·simp [h0]
def okOct (s : Str) : Bool := (rread s 255).2
def vOct (s : Str) : Int := (rread s 255).1
def fin4 : List Str → List Int → Nat → Option Int
 | [], p, n => if n = 4 then some (joinA p) else none
 | x :: xs, p, n => if n < 4 ∧ okOct x = true then fin4 xs (p.set n (vOct x)) (n + 1) else none
structure Cur (p : List Int) (n d : Nat) (cur : Str) : Prop where
 len : p.length = 4
 n3 : n ≤ 3
 d : d = cur.length
 digs : cur.any dbad = false
 val : p.getD n 0 = (dval cur : Int)
 le : (dval cur : Int) ≤ 255
 head : cur.length ≤ 1 ∨ ¬ (cur.headD 0).toNat = 48
 rest : ∀ j, n < j → p.getD j 0 = 0
theorem okOct_eq (s : Str) : okOct s = (!(rhead s) && (!(s.any dbad) && decide ((dval s : Int) ≤ 255))) := by
 unfold okOct
 rw [rread_eq s 255 (by decide)]
 split
 ·rename_i h; rw [h]
 ·rename_i h; rw [Bool.eq_false_iff.2 h]
theorem vOct_eq {s : Str} (h : okOct s = true) : vOct s = (dval s : Int) := by
 have h' := h
 rw [okOct_eq] at h'
 unfold vOct
 rw [rread_eq s 255 (by decide), if_pos h']
theorem Cur.ok {p : List Int} {n d : Nat} {cur : Str} (h : Cur p n d cur) : okOct cur = decide (0 < d) := by
 rw [okOct_eq, h.digs, decide_eq_true h.le, h.d]
 cases cur with
 | nil => rfl
 | cons c l =>
  have : rhead (c :: l) = false := by
   rcases h.head with h1 | h1
   ·have : l = [] := by cases l with | nil => rfl | cons _ _ => simp at h1
    subst this; rfl
   ·have h2 : (((List.headD (c :: l) 0).toNat : Int) == 48) = false := by simp at h1 ⊢; omega
    simp only [rhead, h2, Bool.and_false, Bool.or_false]; rfl
  rw [this]; simp
theorem set_same {p : List Int} {n : Nat} (h : n < p.length) : p.set n (p.getD n 0) = p := by
 rw [List.getD, List.getElem?_eq_getElem h]; simp
theorem bad_first {p : List Int} {n : Nat} {s cur : Str} (h : ∀ q, okOct (cur ++ q) = false) : fin4 (partsA 46 s cur) p n = none := by
 obtain ⟨q, qs, -, h2⟩ := partsA_pre 46 s cur
 rw [h2, fin4, if_neg]
 rw [h q]; simp
theorem dval_F0 {s : Str} (h : s.any dbad = false) : (dval s : Int) = dvalF 0 s := dval_F s 0 h
theorem dvalF_app (a b : Str) (n : Int) : dvalF n (a ++ b) = dvalF (dvalF n a) b := by unfold dvalF; rw [List.foldl_append]
theorem dval_pos_head {c : UInt8} {l : Str} (hd : (c :: l).any dbad = false) (h : ¬ c.toNat = 48) : 0 < (dval (c :: l) : Int) := by
 rw [dval_F0 hd]
 rw [List.any_cons, Bool.or_eq_false_iff] at hd
 have h4 := dbad_ok hd.1
 have := dvalF_ge l (10 * 0 + ((c.toNat : Int) - 48)) (by omega) hd.2
 show 0 < dvalF (10 * 0 + ((c.toNat : Int) - 48)) l
 omega
theorem aRun_fin : ∀ (s : Str) (p : List Int) (n d : Nat) (cur : Str), Cur p n d cur → aRun s p n d = fin4 (partsA 46 s cur) p n
 | [], p, n, d, cur, h => by
  rw [aRun, partsA, fin4, fin4, h.ok]
  have hn := h.n3
  have hl := h.len
  by_cases h1 : n ≠ 3 ∨ d = 0
  ·rw [if_pos h1]
   by_cases hd : d = 0
   ·subst hd; simp
   ·have : n ≠ 3 := by omega
    have h4 : ¬ n + 1 = 4 := by omega
    rw [if_neg h4]; simp
  ·rw [if_neg h1]
   have hd : 0 < d := by omega
   rw [if_pos ⟨by omega, by simpa using hd⟩, if_pos (by omega), vOct_eq (by rw [h.ok]; simpa using hd), ← h.val, set_same (by omega)]
 | c :: s, p, n, d, cur, h => by
  have hn := h.n3
  have hl := h.len
  rw [aRun]
  by_cases hc : c.toNat = 46
  ·have hc' : c = 46 := UInt8.toNat_inj.1 hc
   rw [if_pos hc, partsA, show (c == 46) = true by simp [hc']]
   dsimp only
   rw [fin4, h.ok]
   by_cases h1 : d = 0 ∨ n = 3
   ·rw [if_pos h1]
    by_cases hd : d = 0
    ·subst hd; simp
    ·have hn3 : n = 3 := by omega
     rw [if_pos ⟨by omega, by simp; omega⟩]
     obtain ⟨q, qs, h2, h3⟩ := partsA_pre 46 s []
     rw [h3, fin4, if_neg (by omega)]
   ·rw [if_neg h1, if_pos ⟨by omega, by simp; omega⟩, vOct_eq (by rw [h.ok]; simp; omega), ← h.val, set_same (by omega)]
    exact aRun_fin s p (n + 1) 0 [] ⟨hl, by omega, rfl, rfl, by rw [h.rest (n + 1) (by omega)]; rfl, by decide, .inl (Nat.zero_le _), fun j hj => h.rest j (by omega)⟩
  ·have hc' : (c == 46) = false := by simpa using fun e : c = 46 => hc (by rw [e]; rfl)
   rw [if_neg hc, partsA, hc']
   dsimp only
   by_cases h1 : c.toNat < 48 ∨ c.toNat > 57
   ·rw [if_pos h1, bad_first]
    intro q
    have hb : dbad c = true := by simp only [dbad, Bool.or_eq_true, decide_eq_true_eq]; omega
    rw [okOct_eq]; simp [hb]
   have hb : dbad c = false := by simp only [dbad, Bool.or_eq_false_iff, decide_eq_false_iff_not]; omega
   rw [if_neg h1]
   by_cases h2 : 0 < d ∧ p.getD n 0 = 0
   ·rw [if_pos h2, bad_first]
    intro q
    have hcur := h.digs
    have hval := h.val
    have hdl := h.d
    cases cur with
    | nil => simp at hdl; omega
    | cons x l =>
     by_cases hx : x.toNat = 48
     ·rw [okOct_eq]
      have : rhead (x :: l ++ [c] ++ q) = true := by
       have e1 : decide (((x :: l ++ [c] ++ q).length : Int) > 1) = true := by simp; omega
       have e2 : (((List.headD (x :: l ++ [c] ++ q) 0).toNat : Int) == 48) = true := by simp [hx]
       simp only [rhead, e1, e2]; simp
      rw [this]; rfl
     ·have := dval_pos_head hcur hx
      omega
   rw [if_neg h2]
   have hdig : (cur ++ [c]).any dbad = false := by rw [List.any_append, h.digs]; simp [hb]
   have hsn : (dval (cur ++ [c]) : Int) = 10 * (dval cur : Int) + ((c.toNat : Int) - 48) := by rw [dval_snoc]; omega
   by_cases h3 : 10 * p.getD n 0 + ((c.toNat : Int) - 48) > 255
   ·rw [if_pos h3, bad_first]
    intro q
    rw [okOct_eq]
    cases hq : ((cur ++ [c]) ++ q).any dbad with
    | true => simp
    | false =>
     have h4 : (255 : Int) < (dval ((cur ++ [c]) ++ q) : Int) := by
      rw [dval_F0 hq, dvalF_app, ← dval_F0 hdig]
      rw [List.any_append, Bool.or_eq_false_iff] at hq
      have := dvalF_ge q (dval (cur ++ [c]) : Int) (by omega) hq.2
      rw [h.val] at h3
      omega
     have : decide ((dval ((cur ++ [c]) ++ q) : Int) ≤ 255) = false := decide_eq_false (by omega)
     rw [this]; simp
   rw [if_neg h3]
   have hset : (p.set n (10 * p.getD n 0 + ((c.toNat : Int) - 48))).getD n 0 = 10 * p.getD n 0 + ((c.toNat : Int) - 48) := by
    rw [List.getD, List.getElem?_set_self (by omega)]; rfl
   have hfin : ∀ (ps : List Str) (v : Int), fin4 ps (p.set n v) n = fin4 ps p n ∨ ps = [] := by
    intro ps v
    cases ps with
    | nil => exact .inr rfl
    | cons x xs => left; rw [fin4, fin4, List.set_set]
   rw [aRun_fin s _ n (d + 1) (cur ++ [c]) ⟨by simp [hl], hn, by simp [h.d], hdig, by rw [hset, h.val, hsn], by rw [hsn, ← h.val]; omega, ?_, fun j hj => ?_⟩]
   ·rcases hfin (partsA 46 s (cur ++ [c])) (10 * p.getD n 0 + ((c.toNat : Int) - 48)) with h4 | h4
    ·exact h4
    ·obtain ⟨q, qs, -, h5⟩ := partsA_pre 46 s (cur ++ [c])
     rw [h5] at h4; cases h4
   ·cases cur with
    | nil => left; simp
    | cons x l =>
     right
     intro hx
     have hx' : x.toNat = 48 := hx
     rcases h.head with h5 | h5
     ·have hl0 : l = [] := by cases l with | nil => rfl | cons _ _ => simp at h5
      subst hl0
      refine h2 ⟨by rw [h.d]; simp, ?_⟩
      rw [h.val]
      show ((10 * 0 + (x.toNat - 48) : Nat) : Int) = 0
      omega
     ·exact h5 hx'
   ·have h6 := h.rest j hj
    rw [List.getD, List.getElem?_set_ne (by omega)]
    exact h6
theorem orB_add (a b k : Nat) (ha : a * 2 ^ k < 2 ^ 32) (hb : b < 2 ^ k) (hk : k ≤ 32) (hab : a * 2 ^ k + b < 2 ^ 32) : orB ((a * 2 ^ k : Nat) : Int) (b : Int) = ((a * 2 ^ k + b : Nat) : Int) := by
 unfold orB
 have hb32 : b < 2 ^ 32 := Nat.lt_of_lt_of_le hb (Nat.pow_le_pow_right (by decide) hk)
 rw [BitVec.toNat_or, ofInt_nat, ofInt_nat, Nat.mod_eq_of_lt ha, Nat.mod_eq_of_lt hb32]
 rw [Nat.mul_comm a, ← Nat.two_pow_add_eq_or_of_lt hb]
 rw [Nat.mul_comm] at hab
 exact IntWalk.u32_in _ ⟨by omega, by omega⟩
theorem shlB_nat (a k : Nat) (h : a * 2 ^ k < 2 ^ 32) : shlB (a : Int) k = ((a * 2 ^ k : Nat) : Int) := by
 unfold shlB
 rw [← pow2' k, ← Int.natCast_mul]
 exact IntWalk.u32_in _ ⟨by omega, by omega⟩
where pow2' (k : Nat) : ((2 ^ k : Nat) : Int) = (2 : Int) ^ k := by simp
theorem joinA_eq (a b c d : Nat) (ha : a ≤ 255) (hb : b ≤ 255) (hc : c ≤ 255) (hd : d ≤ 255) : joinA [(a : Int), (b : Int), (c : Int), (d : Int)] = ((((a * 256 + b) * 256 + c) * 256 + d : Nat) : Int) := by
 show orB (orB (orB (shlB (a : Int) 24) (shlB (b : Int) 16)) (shlB (c : Int) 8)) (d : Int) = _
 rw [shlB_nat a 24 (by omega), shlB_nat b 16 (by omega), shlB_nat c 8 (by omega), orB_add a (b * 2 ^ 16) 24 (by omega) (by omega) (by omega) (by omega)]
 rw [show a * 2 ^ 24 + b * 2 ^ 16 = (a * 256 + b) * 2 ^ 16 by omega, orB_add (a * 256 + b) (c * 2 ^ 8) 16 (by omega) (by omega) (by omega) (by omega)]
 rw [show (a * 256 + b) * 2 ^ 16 + c * 2 ^ 8 = ((a * 256 + b) * 256 + c) * 2 ^ 8 by omega, orB_add ((a * 256 + b) * 256 + c) d 8 (by omega) (by omega) (by omega) (by omega)]
theorem fin4_len : ∀ (xs : List Str) (p : List Int) (n : Nat), ¬ xs.length + n = 4 → fin4 xs p n = none
 | [], p, n, h => by rw [fin4, if_neg (by simpa using h)]
 | x :: xs, p, n, h => by
  rw [fin4]
  split
  ·exact fin4_len xs _ _ (by simp at h; omega)
  ·rfl
def sum4 : List Str → Int → Option Int
 | [], a => some a
 | x :: xs, a => if okOct x = true then sum4 xs (a * 256 + vOct x) else none
def raddr (s : Str) : Int × Bool := if (parts 46 s).length = 4 then addrO (sum4 (parts 46 s) 0) else (0, false)
theorem vOct_nat (s : Str) : ∃ v : Nat, v ≤ 255 ∧ vOct s = (v : Int) := by
 unfold vOct
 rw [rread_eq s 255 (by decide)]
 split
 ·rename_i h
  simp only [Bool.and_eq_true, decide_eq_true_eq] at h
  exact ⟨dval s, by omega, rfl⟩
 ·exact ⟨0, by omega, rfl⟩
theorem addr_eq (s : Str) : addr s = raddr s := by
 unfold addr raddr
 rw [aRun_fin s [0, 0, 0, 0] 0 0 [] ⟨rfl, by omega, rfl, rfl, rfl, by decide, .inl (Nat.zero_le _), fun j hj => by
  match j, hj with
  | 1, _ => rfl
  | 2, _ => rfl
  | 3, _ => rfl
  | j + 4, _ => rfl⟩]
 show addrO (fin4 (parts 46 s) [0, 0, 0, 0] 0) = _
 generalize parts 46 s = ps
 by_cases h : ps.length = 4
 ·rw [if_pos h]
  congr 1
  match ps, h with
  | [a, b, c, d], _ =>
   simp only [fin4, sum4]
   obtain ⟨va, ha, ea⟩ := vOct_nat a
   obtain ⟨vb, hb, eb⟩ := vOct_nat b
   obtain ⟨vc, hc, ec⟩ := vOct_nat c
   obtain ⟨vd, hd, ed⟩ := vOct_nat d
   rw [ea, eb, ec, ed]
   have hj := joinA_eq va vb vc vd ha hb hc hd
   cases h1 : okOct a <;> cases h2 : okOct b <;> cases h3 : okOct c <;> cases h4 : okOct d <;> first | (simp; done) | skip
   rw [if_pos ⟨by decide, rfl⟩, if_pos ⟨by decide, rfl⟩, if_pos ⟨by decide, rfl⟩, if_pos ⟨by decide, rfl⟩]
   simp only [List.set, if_true, hj]
   refine congrArg some ?_
   omega
 ·rw [if_neg h, fin4_len ps _ 0 (by simpa using h)]; rfl
theorem sum4_lt : ∀ (xs : List Str) (a : Int) (k : Nat), 0 ≤ a → a < 256 ^ k → ∀ v, sum4 xs a = some v → 0 ≤ v ∧ v < 256 ^ (k + xs.length)
 | [], a, k, h0, h1, v, h => by cases h; exact ⟨h0, h1⟩
 | x :: xs, a, k, h0, h1, v, h => by
  rw [sum4] at h
  split at h
  ·obtain ⟨w, hw, e⟩ := vOct_nat x
   have := sum4_lt xs (a * 256 + vOct x) (k + 1) (by omega) (by rw [Int.pow_succ]; omega) v h
   rw [show k + (x :: xs).length = k + 1 + xs.length by simp; omega]
   exact this
  ·cases h
theorem addr_lt (s : Str) : 0 ≤ (addr s).1 ∧ (addr s).1 < 4294967296 := by
 rw [addr_eq]
 unfold raddr
 split
 ·rename_i h
  cases h2 : sum4 (parts 46 s) 0 with
  | none => exact ⟨by decide, by decide⟩
  | some v =>
   have := sum4_lt _ 0 0 (by decide) (by decide) v h2
   rw [h] at this
   exact this
 ·exact ⟨by decide, by decide⟩
def rpfx (s : Str) : TPfx × Bool :=
  if (parts 47 s).length = 2 then
    (if !(addr ((parts 47 s).getD 0 [])).2 || !(rread ((parts 47 s).getD 1 []) 32).2 || !rvalid ⟨(addr ((parts 47 s).getD 0 [])).1, (rread ((parts 47 s).getD 1 []) 32).1⟩ then (⟨0, 0⟩, false)
     else (⟨(addr ((parts 47 s).getD 0 [])).1, (rread ((parts 47 s).getD 1 []) 32).1⟩, true))
  else (⟨0, 0⟩, false)
theorem slash_bad {b : Str} (h : 47 ∈ b) : b.any dbad = true := List.any_eq_true.2 ⟨47, h, by decide⟩
theorem big3 {b : Str} (hl : 2 < b.length) (hd : b.any dbad = false) (hh : ¬ (b.headD 0).toNat = 48) : 32 < (dval b : Int) := by
 rw [dval_F0 hd]
 cases b with
 | nil => simp at hl
 | cons c s =>
  rw [List.any_cons, Bool.or_eq_false_iff] at hd
  have h4 := dbad_ok hd.1
  have h5 : ¬ c.toNat = 48 := hh
  have h6 := dvalF_pow s (10 * 0 + ((c.toNat : Int) - 48)) (by omega) hd.2
  have h7 : (10 : Int) ^ 2 ≤ 10 ^ s.length := by
   have : (10 : Nat) ^ 2 ≤ 10 ^ s.length := Nat.pow_le_pow_right (by decide) (by simp at hl; omega)
   exact_mod_cast this
  show 32 < dvalF (10 * 0 + ((c.toNat : Int) - 48)) s
  have h8 : (1 : Int) * 10 ^ s.length ≤ (10 * 0 + ((c.toNat : Int) - 48)) * 10 ^ s.length := Int.mul_le_mul_of_nonneg_right (by omega) (Int.pow_nonneg (by decide))
  have h9 : (10 : Int) ^ 2 = 100 := by decide
  omega
theorem pfx_eq (s : Str) : pfxParse s = rpfx s := by
 unfold pfxParse rpfx
 rcases index_one 47 s with ⟨h1, h2⟩ | ⟨a, b, h1, h2, h3⟩
 ·have e1 : Lib.cut s [47] = (s, [], false) := by unfold Lib.cut; rw [h2, if_neg (by decide)]
  have e2 : parts 47 s = [s] := by unfold parts; rw [parts_none h1]; rfl
  rw [e1, e2]
  simp [pfxP2, pphead]
 ·have e1 : Lib.cut s [47] = (a, b, true) := by
   unfold Lib.cut
   rw [h3, if_pos (by omega), h1]
   simp
  have e2 : parts 47 s = a :: parts 47 b := by rw [h1]; exact parts_some h2 []
  rw [e1, e2]
  show pfxP2 a b true = _
  by_cases hb : (47 : UInt8) ∈ b
  ·have h4 : ¬ (a :: parts 47 b).length = 2 := by
    rw [List.length_cons, parts_len]
    have := List.count_pos_iff.2 hb
    omega
   rw [if_neg h4]
   unfold pfxP2
   split
   ·rfl
   ·rw [if_pos (slash_bad hb)]
  ·have e3 : parts 47 b = [b] := by unfold parts; rw [parts_none hb]; rfl
   rw [e3, if_pos (show ([a, b] : List Str).length = 2 from rfl)]
   show pfxP2 a b true = if !(addr a).2 || !(rread b 32).2 || !rvalid ⟨(addr a).1, (rread b 32).1⟩ then (⟨0, 0⟩, false) else (⟨(addr a).1, (rread b 32).1⟩, true)
   have hal := addr_lt a
   unfold pfxP2 pphead
   generalize addr a = A at hal
   obtain ⟨av, ao⟩ := A
   dsimp only at hal ⊢
   rw [rread_eq b 32 (by decide)]
   cases ao with
   | false => simp
   | true =>
    cases hd : b.any dbad with
    | true => simp
    | false =>
     cases hz : rhead b with
     | true =>
      have : (((((!true || !true) || ((b.length : Int) == 0)) || decide ((b.length : Int) > 2)) || (((b.length : Int) == 2) && (((b.headD 0).toNat : Int) == 48)))) = true := by
       simp only [rhead, Bool.or_eq_true, Bool.and_eq_true, decide_eq_true_eq] at hz
       rcases hz with h5 | ⟨h5, h6⟩
       ·have : b = [] := by simpa using h5
        subst this; rfl
       ·rw [h6]
        by_cases h7 : (b.length : Int) > 2
        ·simp [h7]
        ·have : (b.length : Int) = 2 := by omega
         simp [this]
      rw [if_pos this]; simp
     | false =>
      have hz' := hz
      simp only [rhead, Bool.or_eq_false_iff] at hz'
      have h0 : ((b.length : Int) == 0) = false := by
       cases b with
       | nil => simp at hz'
       | cons c l => simp; omega
      rw [h0]
      by_cases h7 : (b.length : Int) > 2
      ·have hh : ¬ (b.headD 0).toNat = 48 := by
        intro e
        have h8 := hz'.2
        rw [e, decide_eq_true (by omega)] at h8
        simp at h8
       have := big3 (by omega) hd hh
       have h9 : decide ((dval b : Int) ≤ 32) = false := decide_eq_false (by omega)
       rw [decide_eq_true h7, h9]; simp
      ·have h8 : (((b.length : Int) == 2) && (((b.headD 0).toNat : Int) == 48)) = false := by
        by_cases h9 : (b.length : Int) = 2
        ·have h10 := hz'.2
         rw [decide_eq_true (show (b.length : Int) > 1 by omega), Bool.true_and] at h10
         rw [h10, Bool.and_false]
        ·rw [show ((b.length : Int) == 2) = false by simpa using h9]; rfl
       rw [decide_eq_false h7, h8]
       by_cases h9 : (dval b : Int) ≤ 32
       ·rw [decide_eq_true h9, valid_eq _ hal]
        simp
       ·have h10 : pvalid ⟨av, (dval b : Int)⟩ = false := by
         rw [Bool.eq_false_iff]
         intro e
         have := (pvalid_bits e).2
         exact h9 this
        rw [decide_eq_false h9, h10]; simp

end
end Go.Proofs.YtkaobkjcjodffaaGreatDoor