/-
 Plain laws of lines: the words of a line and the parts of a text, as the program and the reference find them.
 Plain laws of numbers and addresses: both ways of reading them agree.
 Plain laws of prefixes: both ways of saying that an address lies in one agree.
-/
import Derived.Test.YtkaobkjcjodffaaGreatDoorHB6
import Derived.Test.YtkaobkjcjodffaaGreatDoorGPwCopy
set_option maxHeartbeats 20000000
namespace Go.Proofs.YtkaobkjcjodffaaGreatDoor
open Go Go.Pw
section
variable {Gl : Glob}
attribute [local irreducible] PW PWL OpP PCalls PWO
def pphead (l r : Str) (f : Bool) : Bool := ((((!f || !(addr l).2) || ((r.length : Int) == 0)) || decide ((r.length : Int) > 2)) || (((r.length : Int) == 2) && (((r.headD 0).toNat : Int) == 48)))
def pfxP2 (l r : Str) (f : Bool) : TPfx × Bool :=
 if pphead l r f then (⟨0, 0⟩, false) else if r.any dbad then (⟨0, 0⟩, false) else if !pvalid ⟨(addr l).1, (dval r : Int)⟩ then (⟨0, 0⟩, false) else (⟨(addr l).1, (dval r : Int)⟩, true)
def pfxParse (s : Str) : TPfx × Bool := pfxP2 (Lib.cut s [47]).1 (Lib.cut s [47]).2.1 (Lib.cut s [47]).2.2
theorem cut_len (s sep : Str) : (Lib.cut s sep).1.length ≤ s.length ∧ (Lib.cut s sep).2.1.length ≤ s.length := by
 unfold Lib.cut
 split <;> simp
 omega
theorem c129' (s : Str) (hl : Small s) : PFun Tryz.prog Gl 104 [.str s] fun r => r = .tup [.int .u32 (addr s).1, .bool (addr s).2] := (c129 s hl).mono fun _ h => h
theorem c104 (hG : GM Gl) (s : Str) (hl : s.length < 4294967281) : PFun Tryz.prog Gl 138 [.str s] fun r => r = .tup [ePfx (pfxParse s).1, .bool (pfxParse s).2] := by
 refine PFun.of hT Tryz.func138 rfl fun B hD => ?_
 refine pw_norm rfl ?_
 have hcl := cut_len s [47]
 have hpp : pfxParse s = pfxP2 (Lib.cut s [47]).1 (Lib.cut s [47]).2.1 (Lib.cut s [47]).2.2 := rfl
 rw [hpp]
 clear hpp
 (refine zGo ?_)
 (refine pl_op rfl (op_fun (c128 hG s [47] hl) rfl rfl e147 zLe rfl (fun r hr => ?_)); subst hr; refine ⟨rfl, ?_⟩; (refine zNp ?_))
 generalize hc : Lib.cut s [47] = c at hcl ⊢
 obtain ⟨l, r, f⟩ := c
 clear hc
 dsimp only at hcl ⊢
 (refine zGo ?_)
 (refine pl_op rfl (op_fun (c129' l (by unfold Small; omega)) rfl rfl e104 zLe rfl (fun r hr => ?_)); subst hr; refine ⟨rfl, ?_⟩; (refine zNp ?_))
 (refine zGo ?_)
 (refine pl_or 3 25 28 (!(addr l).2) rfl rfl rfl (fun hb => ?_) (fun hb => ?_) ?_; (focus ((refine zNp ?_); (refine zGo ?_); exact ⟨zLe, StLe.refl _⟩)); (focus ((refine zNp ?_); (refine zGo ?_); exact ⟨zLe, StLe.refl _⟩)); (refine zNp ?_); (refine zGo ?_))
 (refine pl_or 4 29 33 ((r.length : Int) == 0) rfl rfl rfl (fun hb => ?_) (fun hb => ?_) ?_; (focus ((refine zNp ?_); (refine zGo ?_); exact ⟨zLe, StLe.refl _⟩)); (focus ((refine zNp ?_); (refine zGo ?_); exact ⟨zLe, StLe.refl _⟩)); (refine zNp ?_); (refine zGo ?_))
 (refine pl_or 4 34 38 (decide ((r.length : Int) > 2)) rfl rfl rfl (fun hb => ?_) (fun hb => ?_) ?_; (focus ((refine zNp ?_); (refine zGo ?_); exact ⟨zLe, StLe.refl _⟩)); (focus ((refine zNp ?_); (refine zGo ?_); exact ⟨zLe, StLe.refl _⟩)); (refine zNp ?_); (refine zGo ?_))
 refine pl_or 9 39 48 (((r.length : Int) == 2) && (((r.headD 0).toNat : Int) == 48)) rfl rfl rfl (fun hb => ?_) (fun hb => ?_) ?_
 ·refine pl_norm rfl ?_
  (refine zGo ?_)
  exact ⟨zLe, StLe.refl _⟩
 ·refine pl_norm rfl ?_
  (refine zGo ?_)
  (refine pl_and 4 43 47 (((r.headD 0).toNat : Int) == 48) rfl rfl rfl (fun hb => ?_) (fun hb => ?_) ?_; (focus ((refine zNp ?_); (refine zGo ?_); (refine pl_on rfl rfl (op_of (v_indexs (c := r.headD 0) hT rfl rfl rfl rfl (by omega) (head_some (by rintro rfl; simp at hb))) ?_); (refine zNp ?_)); (refine zGo ?_); exact ⟨zLe, StLe.refl _⟩)); (focus ((refine zNp ?_); (refine zGo ?_); exact ⟨zLe, StLe.refl _⟩)); (refine zNp ?_); (refine zGo ?_))
  exact ⟨zLe, StLe.refl _⟩
 refine pl_norm rfl ?_
 (refine zGo ?_)
 refine pw_cond rfl (fun h => ?_) (fun h => ?_)
 ·(refine zGo ?_)
  refine ret1 _ rfl ?_ rfl
  have h' : pphead l r f = true := h
  simp only [pfxP2, h', if_true]
  rfl
 have h' : pphead l r f = false := h
 have hh := h'
 simp only [pphead, Bool.or_eq_false_iff, decide_eq_false_iff_not] at hh
 (refine zGo ?_)
 have hr2 : r.length ≤ 2 := by omega
 refine pw_for hD (fun i : Nat => [(9, .int .i64 (dval (r.take i) : Int)), (10, .int .i64 i)]) (fun _ => [.box [.int .u32 0, .int .i64 0]]) (fun i => i ≤ r.length ∧ ∀ (j : Nat) c, j < i → r[j]? = some c → dbad c = false) (fun i => r.length - i) 0 ⟨by omega, by intro j c h; omega⟩ 1 rfl (fun _ => rfl) (StLe.refl _) (fun _ => rfl) (fun _ => rfl) zLe ?_
 rintro i ⟨hi, hno⟩
 (refine zGo ?_)
 refine pw_cond rfl (fun h2 => ?_) (fun h2 => ?_)
 ·simp only [decide_eq_true_eq] at h2
  have hlt : i < r.length := by omega
  (refine zGo ?_)
  (refine pl_op rfl (op_of (v_indexs (c := r[i]) hT rfl rfl rfl rfl (by omega) (by simp [hlt])) ?_); (refine zNp ?_))
  (refine zGo ?_)
  (refine pl_or 5 60 65 (decide ((r[i].toNat : Int) > 57)) rfl rfl rfl (fun hb => ?_) (fun hb => ?_) ?_; (focus ((refine zNp ?_); (refine zGo ?_); exact ⟨zLe, StLe.refl _⟩)); (focus ((refine zNp ?_); (refine zGo ?_); (refine pl_on rfl rfl (op_of (v_indexs (c := r[i]) hT rfl rfl rfl rfl (by omega) (by simp [hlt])) ?_); (refine zNp ?_)); (refine zGo ?_); exact ⟨zLe, StLe.refl _⟩)); (refine zNp ?_); (refine zGo ?_))
  refine pw_cond rfl (fun h3 => ?_) (fun h3 => ?_)
  ·(refine zGo ?_)
   refine ret1 _ rfl ?_ rfl
   have : r.any dbad = true := List.any_eq_true.2 ⟨r[i], List.getElem_mem hlt, h3⟩
   simp only [pfxP2, h', this, if_true, Bool.false_eq_true, if_false]
   rfl
  ·have h3' := h3
   simp only [Bool.or_eq_false_iff, decide_eq_false_iff_not] at h3'
   have hv : dval (r.take i) < 10 ^ 2 := by
    have := dval_lt (r.take i) (fun c hc => by
     obtain ⟨j, hj⟩ := List.mem_iff_getElem?.1 hc
     rw [List.getElem?_take] at hj
     split at hj
     ·exact hno j c (by assumption) hj
     ·cases hj)
    have h4 : (r.take i).length ≤ 2 := by simp; omega
    exact Nat.lt_of_lt_of_le this (Nat.pow_le_pow_right (by omega) h4)
   (refine zGo ?_)
   (refine pl_op rfl (op_of (v_indexs (c := r[i]) hT rfl rfl rfl rfl (by omega) (by simp [hlt])) ?_); (refine zNp ?_))
   (refine pl_op rfl (op_of (v_arith rfl rfl rfl rfl (IntWalk.u8_in _ (by omega))) ?_); (refine zNp ?_))
   (refine pl_op rfl (op_of (v_conv hT rfl rfl rfl rfl (IntWalk.i64_in _ (by omega))) ?_); (refine zNp ?_))
   (refine zGo ?_)
   have hs : (dval (r.take (i + 1)) : Int) = 10 * (dval (r.take i) : Int) + ((r[i].toNat : Int) - 48) := by
    rw [List.take_succ_eq_append_getElem hlt, dval_snoc]; omega
   refine ⟨i + 1, ⟨by omega, fun j d hj hd => ?_⟩, by omega, ?_, zLes⟩
   ·rcases Nat.lt_succ_iff_lt_or_eq.1 hj with hj | rfl
    ·exact hno j d hj hd
    ·rw [List.getElem?_eq_getElem hlt] at hd; cases hd; exact h3
   ·simp only [hs]
    (exact zLe)
 ·simp only [decide_eq_false_iff_not] at h2
  have hie : i = r.length := by omega
  subst hie
  have hany : r.any dbad = false := List.any_eq_false.2 fun c hc => by
   obtain ⟨j, hj⟩ := List.mem_iff_getElem?.1 hc
   simp [hno j c (by have := (List.getElem?_eq_some_iff.1 hj).1; omega) hj]
  rw [List.take_length]
  (refine zGo ?_)
  (refine pl_op rfl (op_fun (c45 ⟨(addr l).1, (dval r : Int)⟩) rfl rfl e148 zLe rfl (fun r hr => ?_)); subst hr; refine ⟨rfl, ?_⟩; (refine zNp ?_))
  (refine zGo ?_)
  refine pw_cond rfl (fun h3 => ?_) (fun h3 => ?_)
  ·(refine zGo ?_)
   refine ret1 _ rfl ?_ rfl
   simp only [pfxP2, h', hany, h3, if_true, Bool.false_eq_true, if_false]
   rfl
  ·(refine zGo ?_)
   refine ret1 _ rfl ?_ rfl
   simp only [pfxP2, h', hany, h3, Bool.false_eq_true, if_false]
   rfl
def isBlank (c : UInt8) : Bool := c == 32 || c == 9
def isSep (c : UInt8) : Bool := c == 44 || c == 61
def isWord (c : UInt8) : Bool := !isBlank c && !isSep c
def flush : Option Str → List Str
 | some w => [w]
 | none => []
def tk : Str → Option Str → List Str
 | [], cur => flush cur
 | c :: s, cur => match c == 35 with
  | true => flush cur
  | false => match isBlank c with
   | true => flush cur ++ tk s none
   | false => match isSep c with
    | true => flush cur ++ [c] :: tk s none
    | false => tk s (some (cur.getD [] ++ [c]))
theorem sub_snoc {s : Str} {k i : Nat} {c : UInt8} (h : s[i]? = some c) (hk : k ≤ i) : sub s k (i + 1) = sub s k i ++ [c] := by
 unfold sub
 obtain ⟨hi, rfl⟩ := List.getElem?_eq_some_iff.1 h
 rw [List.take_succ_eq_append_getElem hi, List.drop_append_of_le_length (by simp; omega)]
theorem wrun_tk (s : Str) : ∀ (n i : Nat) (out : List Str) (st : Option Nat), s.length = i + n → (∀ k, st = some k → k < i) → wrun s n i out st = out ++ tk (s.drop i) (st.map fun k => sub s k i)
 | 0, i, out, st, hn, hs => by
  rw [List.drop_eq_nil_of_le (by omega)]
  cases st <;> simp [wrun, endW, tk, flush]
 | n + 1, i, out, st, hn, hs => by
  have hi : i < s.length := by omega
  have hg : s[i]? = some s[i] := List.getElem?_eq_getElem hi
  rw [List.drop_eq_getElem_cons hi]
  generalize s[i] = c at hg
  have he : endW s out st i = out ++ flush (st.map fun k => sub s k i) := by cases st <;> simp [endW, flush]
  rw [wrun]
  simp only [hg]
  unfold tk
  by_cases h1 : c = 35
  ·rw [if_pos h1, he]; simp [h1]
  rw [if_neg h1, show (c == 35) = false by simpa using h1]
  dsimp only
  by_cases h2 : c = 32 ∨ c = 9
  ·rw [if_pos h2, wrun_tk s n (i + 1) _ none (by omega) (by intro k h; cases h), he, show isBlank c = true by rcases h2 with rfl | rfl <;> decide]
   simp
  rw [if_neg h2, show isBlank c = false by simp [isBlank]; exact ⟨fun h => h2 (.inl h), fun h => h2 (.inr h)⟩]
  dsimp only
  by_cases h3 : c = 44 ∨ c = 61
  ·rw [if_pos h3, wrun_tk s n (i + 1) _ none (by omega) (by intro k h; cases h), he, show isSep c = true by rcases h3 with rfl | rfl <;> decide, sub_snoc hg (Nat.le_refl _)]
   simp [sub]
  rw [if_neg h3, show isSep c = false by simp [isSep]; exact ⟨fun h => h3 (.inl h), fun h => h3 (.inr h)⟩]
  dsimp only
  rw [wrun_tk s n (i + 1) _ _ (by omega) (by
   intro k h
   cases st with
   | none => simp at h; omega
   | some j => have := hs j rfl; simp at h; omega)]
  congr 2
  cases st with
  | none => show some (sub s i (i + 1)) = some ([] ++ [c]); rw [sub_snoc hg (Nat.le_refl _)]; simp [sub]
  | some j => simp [sub_snoc hg (Nat.le_of_lt (hs j rfl))]
theorem words_tk (s : Str) : words s = tk s none := by
 rw [words, wrun_tk s s.length 0 [] none (by omega) (by intro k h; cases h)]; simp
def rw1 : Nat → Str → List Str
 | 0, _ => []
 | _ + 1, [] => []
 | n + 1, c :: s => match isBlank c with
  | true => rw1 n s
  | false => match isSep c with
   | true => [c] :: rw1 n s
   | false => (c :: s.takeWhile isWord) :: rw1 n (s.dropWhile isWord)
def rwords (s : Str) : List Str := rw1 s.length s
theorem dropWhile_len {α : Type} (p : α → Bool) (l : List α) : (l.dropWhile p).length ≤ l.length := List.IsSuffix.length_le (List.dropWhile_suffix p)
theorem rw1_fuel : ∀ (n m : Nat) (s : Str), s.length ≤ n → s.length ≤ m → rw1 n s = rw1 m s
 | 0, m, [], _, _ => by cases m <;> rfl
 | n + 1, 0, [], _, _ => rfl
 | n + 1, m + 1, [], _, _ => rfl
 | n + 1, m + 1, c :: s, h1, h2 => by
  simp only [List.length_cons] at h1 h2
  have := dropWhile_len isWord s
  unfold rw1
  rw [rw1_fuel n m s (by omega) (by omega), rw1_fuel n m (s.dropWhile isWord) (by omega) (by omega)]
theorem rwords_cons (c : UInt8) (s : Str) : rwords (c :: s) = match isBlank c with
  | true => rwords s
  | false => match isSep c with
   | true => [c] :: rwords s
   | false => (c :: s.takeWhile isWord) :: rwords (s.dropWhile isWord) := by
 unfold rwords
 rw [List.length_cons, rw1, rw1_fuel s.length (s.dropWhile isWord).length (s.dropWhile isWord) (dropWhile_len _ _) (Nat.le_refl _)]
def noHash (c : UInt8) : Bool := !(c == 35)
theorem tk_some : ∀ (s : Str) (w : Str), tk s (some w) = (w ++ (s.takeWhile noHash).takeWhile isWord) :: rwords ((s.takeWhile noHash).dropWhile isWord)
  ∧ tk s none = rwords (s.takeWhile noHash) := by
 intro s
 induction s with
 | nil => intro w; simp [tk, flush, rwords, rw1]
 | cons c s ih =>
  intro w
  unfold tk
  by_cases h1 : c = 35
  ·subst h1
   simp [flush, noHash, rwords, rw1]
  rw [show (c == 35) = false by simpa using h1, List.takeWhile_cons, show noHash c = true by simp [noHash, h1]]
  dsimp only
  cases h2 : isBlank c with
  | true =>
   have hw : isWord c = false := by simp [isWord, h2]
   simp only [if_true, List.takeWhile_cons, List.dropWhile_cons, hw, Bool.false_eq_true, if_false]
   rw [rwords_cons, h2]
   simp [flush, (ih []).2]
  | false =>
   cases h3 : isSep c with
   | true =>
    have hw : isWord c = false := by simp [isWord, h2, h3]
    simp only [if_true, List.takeWhile_cons, List.dropWhile_cons, hw, Bool.false_eq_true, if_false]
    rw [rwords_cons, h2, h3]
    simp [flush, (ih []).2]
   | false =>
    have hw : isWord c = true := by simp [isWord, h2, h3]
    simp only [if_true, List.takeWhile_cons, List.dropWhile_cons, hw]
    rw [rwords_cons, h2, h3]
    simp [(ih (w ++ [c])).1, (ih [c]).1]
theorem words_rw (s : Str) : words s = rwords (s.takeWhile noHash) := by rw [words_tk, (tk_some s []).2]
def partsA (c : UInt8) : Str → Str → List Str
 | [], cur => [cur]
 | b :: s, cur => match b == c with
  | true => cur :: partsA c s []
  | false => partsA c s (cur ++ [b])
def parts (c : UInt8) (s : Str) : List Str := partsA c s []
theorem partsA_pre (c : UInt8) : ∀ (s cur : Str), ∃ p ps, parts c s = p :: ps ∧ partsA c s cur = (cur ++ p) :: ps := by
 intro s
 induction s with
 | nil => intro cur; exact ⟨[], [], rfl, by simp [partsA]⟩
 | cons b s ih =>
  intro cur
  unfold parts
  unfold partsA
  cases h : b == c with
  | true => exact ⟨[], partsA c s [], rfl, by simp⟩
  | false =>
   obtain ⟨p, ps, h1, h2⟩ := ih (cur ++ [b])
   obtain ⟨p', ps', h3, h4⟩ := ih [b]
   rw [h1] at h3
   cases h3
   exact ⟨[b] ++ p, ps, h4, by simpa using h2⟩
theorem parts_none {c : UInt8} {s : Str} (h : c ∉ s) : ∀ cur, partsA c s cur = [cur ++ s] := by
 induction s with
 | nil => intro cur; simp [partsA]
 | cons b s ih =>
  intro cur
  simp only [List.mem_cons, not_or] at h
  rw [partsA, show (b == c) = false by simpa using fun e => h.1 e.symm]
  dsimp only
  rw [ih h.2]; simp
theorem parts_some {c : UInt8} {a b : Str} (h : c ∉ a) : ∀ cur, partsA c (a ++ c :: b) cur = (cur ++ a) :: parts c b := by
 induction a with
 | nil => intro cur; simp [partsA, parts]
 | cons x a ih =>
  intro cur
  simp only [List.mem_cons, not_or] at h
  rw [List.cons_append, partsA, show (x == c) = false by simpa using fun e => h.1 e.symm]
  dsimp only
  rw [ih h.2]; simp
theorem parts_len (c : UInt8) (s : Str) : (parts c s).length = s.count c + 1 := by
 have : ∀ (s cur : Str), (partsA c s cur).length = s.count c + 1 := by
  intro s
  induction s with
  | nil => intro cur; rfl
  | cons b s ih =>
   intro cur
   rw [partsA]
   cases h : b == c with
   | true => simp [ih, beq_iff_eq.1 h]
   | false => simp [ih, List.count_cons, h]
 exact this s []
theorem index_one (c : UInt8) : ∀ (s : Str), (c ∉ s ∧ Lib.index s [c] = -1) ∨ ∃ a b, s = a ++ c :: b ∧ c ∉ a ∧ Lib.index s [c] = (a.length : Int)
 | [] => .inl ⟨by simp, by simp [Lib.index]⟩
 | x :: s => by
  by_cases h : x = c
  ·subst h
   exact .inr ⟨[], s, rfl, by simp, by simp [Lib.index, List.isPrefixOf]⟩
  ·have hp : ([c] : List UInt8).isPrefixOf (x :: s) = false := by simp [List.isPrefixOf, Ne.symm h]
   rcases index_one c s with ⟨h1, h2⟩ | ⟨a, b, h1, h2, h3⟩
   ·refine .inl ⟨by simp [h1, Ne.symm h], ?_⟩
    rw [Lib.index, hp, h2]; rfl
   ·refine .inr ⟨x :: a, b, by rw [h1]; rfl, by simp [h2, Ne.symm h], ?_⟩
    rw [Lib.index, hp, h3]
    have : ¬ ((a.length : Int) == -1) = true := by simp
    simp [this]
theorem ext_toList (b : ByteArray) (i j : Nat) : (b.extract i j).data.toList = (b.data.toList.take j).drop i := by
 rw [ByteArray.data_extract, Array.toList_extract]
 simp [List.extract, List.drop_take]
theorem splitB_parts (c : UInt8) : ∀ (k : Nat) (b : ByteArray), b.data.toList.count c = k → (Lib.splitB (bytes [c]) 0 k b).map (fun b => b.data.toList) = parts c b.data.toList
 | 0, b, hk => by
  have hn : c ∉ b.data.toList := by rw [← List.count_eq_zero]; exact hk
  rw [Lib.splitB_zero, parts, parts_none hn]; simp
 | k + 1, b, hk => by
  have hm : c ∈ b.data.toList := by rw [← List.count_pos_iff]; omega
  rcases index_one c b.data.toList with ⟨h1, _⟩ | ⟨x, y, h1, h2, h3⟩
  ·exact absurd hm h1
  have hix : Lib.indexB b (bytes [c]) = (x.length : Int) := h3
  rw [Lib.splitB_hit (bytes [c]) 0 k b x.length hix, List.map_cons]
  have e1 : (bytes [c]).size = 1 := rfl
  have e2 : (b.extract (x.length + 1) b.size).data.toList = y := by
   rw [ext_toList, h1]
   have : b.size = (x ++ c :: y).length := by rw [← h1]; exact Array.length_toList.symm
   rw [this, List.take_length, List.drop_append]
   simp
  have e3 : (b.extract 0 (x.length + 0)).data.toList = x := by
   rw [ext_toList, h1]; simp
  rw [e1, e3, splitB_parts c k _ (by rw [e2]; rw [h1] at hk; simp [List.count_append, List.count_eq_zero.2 h2] at hk; exact hk), e2, h1]
  exact (parts_some h2 []).symm
theorem splitAt_parts (c : UInt8) (s : Str) : splitAt c s = parts c s := by
 unfold splitAt
 exact splitB_parts c _ (bytes s) (Lib.count_one c s).symm
theorem sub_nil (s : Str) (k : Nat) : sub s k k = [] := by unfold sub; exact List.drop_eq_nil_of_le (by simp; omega)
theorem byte_eq (a b : UInt8) : (((a.toNat : Int)) == ((b.toNat : Int))) = (a == b) := by
 rw [Bool.eq_iff_iff, beq_iff_eq, beq_iff_eq]
 constructor
 ·intro h; exact UInt8.toNat_inj.1 (by omega)
 ·rintro rfl; rfl
theorem get_getD {s : Str} {i : Nat} (h : i < s.length) : s[i]? = some (s.getD i 0) := by rw [List.getD, List.getElem?_eq_getElem h]; rfl
theorem drop_getD {s : Str} {i : Nat} (h : i < s.length) : s.drop i = s.getD i 0 :: s.drop (i + 1) := by
 rw [List.drop_eq_getElem_cons h, List.getD, List.getElem?_eq_getElem h]; rfl
theorem c58 (s : Str) (c : UInt8) (hl : Small s) : PFun Tryz.prog Gl 51 [.str s, .int .u8 c.toNat] fun r => r = .sl ((parts c s).map .str) := by
 refine PFun.of hT Tryz.func51 rfl fun B hD => ?_
 refine pw_norm rfl ?_
 unfold Small at hl
 (refine zGo ?_)
 refine pw_ghost 1 ?_
 refine pw_norm rfl ?_
 refine pw_for hD (fun a : Nat × List Str × Nat × Nat => [(5, .msl 1 0 0 (a.2.1.map PV.str).length a.2.2.2), (6, .int .i64 a.2.2.1), (7, .int .i64 a.1)]) (fun a => [.arr 1 (a.2.1.map .str) a.2.2.2])
  (fun a => a.2.1.length ≤ a.1 ∧ ((a.1 ≤ s.length ∧ a.2.2.1 ≤ a.1 ∧ a.2.1 ++ partsA c (s.drop a.1) (sub s a.2.2.1 a.1) = parts c s) ∨ (a.1 = s.length + 1 ∧ a.2.1 = parts c s))) (fun a => s.length + 1 - a.1) (0, [], 0, 0)
  ⟨Nat.zero_le _, .inl ⟨Nat.zero_le _, Nat.le_refl _, by simp [sub, parts]⟩⟩ 1 rfl (fun _ => rfl) ⟨.inl rfl, trivial⟩ (fun _ => rfl) (fun _ => rfl) zLe ?_
 rintro ⟨i, out, f, cap⟩ ⟨ho, hw⟩
 dsimp only at ho hw ⊢
 (refine zGo ?_)
 refine pw_cond rfl (fun h1 => ?_) (fun h1 => ?_)
 ·simp only [decide_eq_true_eq] at h1
  have hi : i ≤ s.length := by omega
  obtain ⟨-, hf, hw⟩ | ⟨e, -⟩ := hw
  ·(refine zGo ?_)
   (refine pl_or 6 18 24 (((s.getD i 0).toNat : Int) == (c.toNat : Int)) rfl rfl rfl (fun hb => ?_) (fun hb => ?_) ?_; (focus ((refine zNp ?_); (refine zGo ?_); exact ⟨zLe, StLe.refl _⟩)); (focus ((refine zNp ?_); (refine zGo ?_); have hlt : i < s.length := (by simp at hb; omega); (refine pl_on rfl rfl (op_of (v_indexs (c := s.getD i 0) hT rfl rfl rfl rfl (by omega) (get_getD hlt)) ?_); (refine zNp ?_)); (refine zGo ?_); exact ⟨zLe, StLe.refl _⟩)); (refine zNp ?_); (refine zGo ?_))
   refine pw_cond rfl (fun h2 => ?_) (fun h2 => ?_)
   ·(refine zGo ?_)
    (refine pl_op rfl (op_of (v_substr hT rfl rfl rfl rfl rfl (by omega) (by omega) (by omega)) ?_); (refine zNp ?_))
    (refine zGo ?_)
    (refine pl_append (b := 16) hT hD rfl rfl rfl rfl rfl rfl rfl rfl (.inl (Nat.zero_lt_succ _)) rfl rfl (by simp; omega) (fun cap' _ hcap => ?_); (refine zNp ?_))
    (refine zGo ?_)
    refine ⟨(i + 1, out ++ [sub s f i], i + 1, cap'), ⟨by show (out ++ [_]).length ≤ i + 1; simp; omega, ?_⟩, by show _ - (i + 1) < _ - i; omega, ?_, ?_⟩
    ·by_cases hlt : i < s.length
     ·refine .inl ⟨hlt, Nat.le_refl _, ?_⟩
      have h3 : ((s.getD i 0) == c) = true := by
       rw [← byte_eq]
       have h2' := h2
       rw [show ((i : Int) == (s.length : Int)) = false by simp; omega] at h2'
       exact h2'
      rw [drop_getD hlt, partsA, h3] at hw
      rw [← hw]
      simp [sub_nil]
     ·have e : i = s.length := by omega
      subst e
      refine .inr ⟨rfl, ?_⟩
      rw [← hw, List.drop_length]; rfl
    ·simp only [List.map_append, List.length_append]
     (exact zLe)
    ·simp only [List.map_append]
     (exact zLes)
   ·(refine zGo ?_)
    have h2' : ((i : Int) == (s.length : Int)) = false ∧ (((s.getD i 0).toNat : Int) == (c.toNat : Int)) = false := Bool.or_eq_false_iff.1 h2
    have hlt : i < s.length := by have := h2'.1; simp at this; omega
    have h3 : ((s.getD i 0) == c) = false := by rw [← byte_eq]; exact h2'.2
    refine ⟨(i + 1, out, f, cap), ⟨by show out.length ≤ i + 1; omega, .inl ⟨hlt, by show f ≤ i + 1; omega, ?_⟩⟩, by show _ - (i + 1) < _ - i; omega, zLe, zLes⟩
    rw [drop_getD hlt, partsA, h3] at hw
    rw [← hw, sub_snoc (get_getD hlt) hf]
  ·omega
 ·simp only [decide_eq_false_iff_not] at h1
  obtain ⟨h, -⟩ | ⟨-, rfl⟩ := hw
  ·omega
  ·(refine zGo ?_)
   exact ret0 _ _ rfl rfl (.inr (.inr (.inr (.inl ⟨_, _, _, _, _, _, rfl, rfl, rfl, rfl, rfl⟩)))) rfl
def rdig (s : Str) : Bool := !(s.any dbad) && (!(s == []) && (((s.length : Int) == 1) || (((s.headD 0).toNat : Int) != 48)))
theorem digs_fin : ∀ n : Fin 256, digs.contains (UInt8.ofNat n.val) = !(dbad (UInt8.ofNat n.val)) := by decide +kernel
theorem digs_bad (c : UInt8) : digs.contains c = !(dbad c) := by
 have := digs_fin ⟨c.toNat, c.toNat_lt⟩
 simpa using this
theorem dropWhile_nil {p : UInt8 → Bool} {l : Str} : l.dropWhile p = [] ↔ l.all p = true := by
 induction l with
 | nil => simp
 | cons c l ih =>
  rw [List.dropWhile_cons, List.all_cons]
  cases h : p c <;> simp [ih]
theorem trim_nil (s : Str) : (Lib.trimS s digs == []) = !(s.any dbad) := by
 have h1 : s.all (digs.contains ·) = !(s.any dbad) := by
  rw [List.all_eq_not_any_not]; congr 2; funext c; rw [digs_bad]; simp
 rw [← h1, Bool.eq_iff_iff, beq_iff_eq]
 unfold Lib.trimS Lib.trimLeftS Lib.trimRightS
 constructor
 ·intro h
  have h2 := dropWhile_nil.1 h
  rw [List.all_reverse] at h2
  have h3 : s.reverse.dropWhile (digs.contains ·) = [] := by
   cases h4 : s.reverse.dropWhile (digs.contains ·) with
   | nil => rfl
   | cons c l =>
    have h5 : (s.reverse.dropWhile (digs.contains ·)).head? = some c := by rw [h4]; rfl
    have h6 := List.head?_dropWhile_not (digs.contains ·) s.reverse
    rw [h4] at h6 h2
    simp only [List.head?_cons, List.all_cons, Bool.and_eq_true] at h6 h2
    rw [h2.1] at h6
    simp at h6
  have := dropWhile_nil.1 h3
  rwa [List.all_reverse] at this
 ·intro h
  have h3 : s.reverse.dropWhile (digs.contains ·) = [] := dropWhile_nil.2 (by rw [List.all_reverse]; exact h)
  rw [h3]; rfl
theorem digitsB_eq (s : Str) : digitsB s = rdig s := by
 unfold digitsB rdig
 rw [trim_nil, Bool.and_comm]
 congr 1
 cases s with
 | nil => rfl
 | cons c l =>
  cases l with
  | nil =>
   by_cases h : c = 48
   ·subst h; rfl
   ·have : ¬ c.toNat = 48 := fun e => h (UInt8.toNat_inj.1 e)
    simp; omega
  | cons d l =>
   have h1 : ((c :: d :: l) == ([48] : Str)) = false := by simp
   have h2 : (((c :: d :: l).length : Int) == 1) = false := by simp; omega
   rw [h1, h2]
def dvalF (n : Int) (s : Str) : Int := s.foldl (fun n c => 10 * n + ((c.toNat : Int) - 48)) n
def rbad (most n : Int) (c : UInt8) : Bool := (dbad c || decide (n > (most - ((c.toNat : Int) - 48)).tdiv 10)) || decide (most < ((c.toNat : Int) - 48))
def rrun (most : Int) : Str → Int → Option Int
 | [], n => some n
 | c :: s, n => if rbad most n c = true then none else rrun most s (10 * n + ((c.toNat : Int) - 48))
def rhead (s : Str) : Bool := (s == []) || (decide ((s.length : Int) > 1) && (((s.headD 0).toNat : Int) == 48))
def readO (o : Option Int) : Int × Bool := match o with | some v => (v, true) | none => (0, false)
def rread (s : Str) (most : Int) : Int × Bool := if rhead s then (0, false) else readO (rrun most s 0)
theorem dbad_ok {c : UInt8} (h : dbad c = false) : 48 ≤ c.toNat ∧ c.toNat ≤ 57 := by
 simp only [dbad, Bool.or_eq_false_iff, decide_eq_false_iff_not] at h
 omega
theorem tdiv10 {a : Int} (h : 0 ≤ a) : a.tdiv 10 = a / 10 := Int.tdiv_eq_ediv_of_nonneg h
theorem rbad_ok {most n : Int} {c : UInt8} (_hn : 0 ≤ n) (h : rbad most n c = false) : dbad c = false ∧ 10 * n + ((c.toNat : Int) - 48) ≤ most := by
 simp only [rbad, Bool.or_eq_false_iff, decide_eq_false_iff_not] at h
 obtain ⟨⟨h1, h2⟩, h3⟩ := h
 have h4 := dbad_ok h1
 rw [tdiv10 (by omega)] at h2
 exact ⟨h1, by omega⟩
theorem rbad_no {most n : Int} {c : UInt8} (hd : dbad c = false) (h : 10 * n + ((c.toNat : Int) - 48) ≤ most) (hn : 0 ≤ n) : rbad most n c = false := by
 have h4 := dbad_ok hd
 simp only [rbad, Bool.or_eq_false_iff, decide_eq_false_iff_not]
 rw [tdiv10 (by omega)]
 exact ⟨⟨hd, by omega⟩, by omega⟩
theorem dvalF_ge : ∀ (s : Str) (n : Int), 0 ≤ n → s.any dbad = false → n ≤ dvalF n s
 | [], n, _, _ => Int.le_refl _
 | c :: s, n, hn, h => by
  rw [List.any_cons, Bool.or_eq_false_iff] at h
  have h4 := dbad_ok h.1
  have := dvalF_ge s (10 * n + ((c.toNat : Int) - 48)) (by omega) h.2
  show n ≤ dvalF (10 * n + ((c.toNat : Int) - 48)) s
  omega
theorem dvalF_nil (n : Int) : dvalF n [] = n := by unfold dvalF; exact List.foldl_nil
theorem rrun_eq (most : Int) (s : Str) : ∀ (n : Int), 0 ≤ n → n ≤ most → rrun most s n = if (!(s.any dbad) && decide (dvalF n s ≤ most)) = true then some (dvalF n s) else none := by
 induction s with
 | nil =>
  intro n _ h
  rw [rrun, dvalF_nil, List.any_nil, if_pos (by rw [decide_eq_true h]; rfl)]
 | cons c s ih =>
  intro n hn h
  rw [rrun, List.any_cons]
  have e : dvalF n (c :: s) = dvalF (10 * n + ((c.toNat : Int) - 48)) s := rfl
  rw [e]
  cases hd : dbad c with
  | true => simp [rbad, hd]
  | false =>
   have h4 := dbad_ok hd
   cases hb : rbad most n c with
   | false =>
    have h5 := rbad_ok hn hb
    rw [if_neg Bool.false_ne_true, ih _ (by omega) h5.2, Bool.false_or]
   | true =>
    rw [if_pos rfl, if_neg]
    intro hh
    simp only [Bool.false_or, Bool.and_eq_true, Bool.not_eq_true', decide_eq_true_eq] at hh
    have h6 := dvalF_ge s (10 * n + ((c.toNat : Int) - 48)) (by omega) hh.1
    have h7 := rbad_no (most := most) hd (by omega) hn
    rw [h7] at hb; cases hb
theorem dval_F : ∀ (s : Str) (n : Nat), s.any dbad = false → ((s.foldl (fun n c => 10 * n + (c.toNat - 48)) n : Nat) : Int) = dvalF n s
 | [], n, _ => by simp [dvalF]
 | c :: s, n, h => by
  rw [List.any_cons, Bool.or_eq_false_iff] at h
  have h4 := dbad_ok h.1
  have h5 := dval_F s (10 * n + (c.toNat - 48)) h.2
  rw [List.foldl_cons, h5]
  unfold dvalF
  rw [List.foldl_cons]
  congr 1
  omega
theorem rread_eq (s : Str) (most : Int) (h0 : 0 ≤ most) : rread s most = if (!(rhead s) && (!(s.any dbad) && decide ((dval s : Int) ≤ most))) = true then ((dval s : Int), true) else (0, false) := by
 unfold rread
 rw [rrun_eq most s 0 (Int.le_refl _) h0]
 cases h1 : rhead s with
 | true => simp
 | false =>
  cases h2 : s.any dbad with
  | true => simp [readO]
  | false =>
   have h3 : (dval s : Int) = dvalF 0 s := dval_F s 0 h2
   rw [← h3]
   cases h4 : decide ((dval s : Int) ≤ most) <;> simp [readO]
theorem dvalF_pow : ∀ (s : Str) (n : Int), 0 ≤ n → s.any dbad = false → n * 10 ^ s.length ≤ dvalF n s
 | [], n, _, _ => by simp [dvalF]
 | c :: s, n, hn, h => by
  rw [List.any_cons, Bool.or_eq_false_iff] at h
  have h4 := dbad_ok h.1
  have h5 := dvalF_pow s (10 * n + ((c.toNat : Int) - 48)) (by omega) h.2
  show n * 10 ^ (s.length + 1) ≤ dvalF (10 * n + ((c.toNat : Int) - 48)) s
  refine Int.le_trans ?_ h5
  rw [Int.pow_succ, Int.mul_comm (10 ^ s.length : Int) 10, ← Int.mul_assoc]
  exact Int.mul_le_mul_of_nonneg_right (by omega) (Int.pow_nonneg (by decide))
theorem mask_nat (k : Nat) (hk : k ≤ 32) : mask (32 - k : Int) = ((2 ^ 32 - 2 ^ k : Nat) : Int) := by
 unfold mask
 rw [show (min ((32 : Int) - (32 - (k : Int))).toNat 32) = k by omega, IntKind.wrap_u32]
 have h1 : (2 : Nat) ^ k ≤ 2 ^ 32 := Nat.pow_le_pow_right (by omega) hk
 have h4 : 0 < 2 ^ k := Nat.two_pow_pos k
 have h5 : (2 : Int) ^ k = ((2 ^ k : Nat) : Int) := (Int.natCast_pow 2 k).symm
 rw [h5]
 generalize (2 : Nat) ^ k = q at h1 h4
 omega
theorem ofInt_nat (n : Nat) : (BitVec.ofInt 32 (n : Int)).toNat = n % 2 ^ 32 := by
 rw [BitVec.ofInt_natCast, BitVec.toNat_ofNat]
theorem andN_mask (a k : Nat) (ha : a < 2 ^ 32) (hk : k ≤ 32) : andN (a : Int) (mask (32 - k : Int)) = ((a % 2 ^ k : Nat) : Int) := by
 unfold andN
 have h0 : 0 < 2 ^ k := Nat.two_pow_pos k
 have h2 : (2 : Nat) ^ k ≤ 2 ^ 32 := Nat.pow_le_pow_right (by omega) hk
 have h1 : (2 : Nat) ^ 32 - 2 ^ k < 2 ^ 32 := by omega
 rw [mask_nat k hk, BitVec.toNat_and, BitVec.toNat_not, ofInt_nat, ofInt_nat, Nat.mod_eq_of_lt ha, Nat.mod_eq_of_lt h1, show 2 ^ 32 - 1 - (2 ^ 32 - 2 ^ k) = 2 ^ k - 1 by omega, Nat.and_two_pow_sub_one_eq_mod]
 refine IntWalk.u32_in _ ⟨by omega, ?_⟩
 have : a % 2 ^ k ≤ a := Nat.mod_le _ _
 omega
theorem rsize_nat (k : Nat) (hk : k ≤ 32) : rsize (32 - k : Int) = ((2 ^ k : Nat) : Int) := by
 unfold rsize
 have h2 : (2 : Nat) ^ k ≤ 2 ^ 32 := Nat.pow_le_pow_right (by omega) hk
 rw [show (min ((32 : Int) - (32 - (k : Int))).toNat 64) = k by omega, Int.one_mul]
 have h5 : (2 : Int) ^ k = ((2 ^ k : Nat) : Int) := (Int.natCast_pow 2 k).symm
 rw [h5]
 generalize (2 : Nat) ^ k = q at h2
 exact IntWalk.u64_in _ ⟨by omega, by omega⟩
theorem pfx_nat {p : TPfx} (h : 0 ≤ p.addr ∧ p.addr < 4294967296) (hb : 0 ≤ p.bits ∧ p.bits ≤ 32) : ∃ n k : Nat, n < 2 ^ 32 ∧ k ≤ 32 ∧ p.addr = n ∧ p.bits = 32 - (k : Int) :=
 ⟨p.addr.toNat, (32 - p.bits).toNat, by omega, by omega, by omega, by omega⟩
theorem valid_eq (p : TPfx) (h : 0 ≤ p.addr ∧ p.addr < 4294967296) : pvalid p = rvalid p := by
 unfold pvalid rvalid
 by_cases hb : 0 ≤ p.bits ∧ p.bits ≤ 32
 ·obtain ⟨n, k, hn, hk, ea, eb⟩ := pfx_nat h hb
  have h5 : (((n : Int)).tmod ((2 ^ k : Nat) : Int)) = ((n % 2 ^ k : Nat) : Int) := rfl
  rw [ea, eb, andN_mask n k hn hk, rsize_nat k hk, IntWalk.u64_in _ (by omega), h5]
 ·by_cases h0 : 0 ≤ p.bits
  ·have h1 : ¬ p.bits ≤ 32 := fun h => hb ⟨h0, h⟩
   simp [h1]
  ·simp [h0]

end
end Go.Proofs.YtkaobkjcjodffaaGreatDoor