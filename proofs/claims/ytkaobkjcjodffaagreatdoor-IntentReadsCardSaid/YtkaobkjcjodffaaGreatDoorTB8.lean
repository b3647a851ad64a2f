/-
 Plain laws of lines: the words of a line and the parts of a text, as the program and the reference find them.
 Plain laws of numbers and addresses: both ways of reading them agree.
 Plain laws of prefixes: both ways of saying that an address lies in one agree.
 Plain laws of addresses and prefixes in texts: both ways of reading them agree.
 Plain laws of prefixes: both ways of saying that one covers another agree.
 The reference's numbers, addresses, prefixes and lines as texts.
-/
import Derived.Test.YtkaobkjcjodffaaGreatDoorTB6
import Derived.Test.YtkaobkjcjodffaaGreatDoorSPwCopy
import Derived.Test.YtkaobkjcjodffaaGreatDoorSPwMap
import Derived.Lib.ItoaNum
import Derived.Test.YtkaobkjcjodffaaGreatDoorSPwGlob
set_option maxHeartbeats 20000000
set_option maxRecDepth 100000
namespace Go.Proofs.YtkaobkjcjodffaaGreatDoor
open Go Go.Pw
section
variable {Gl : Glob}
attribute [local irreducible] PW PWL OpP PCalls PWO
def pphead (l r : Str) (f : Bool) : Bool := ((((!f || !(addr l).2) || ((r.length : Int) == 0)) || decide ((r.length : Int) > 2)) || (((r.length : Int) == 2) && (((r.headD 0).toNat : Int) == 48)))
def pfxP2 (l r : Str) (f : Bool) : TPfx × Bool :=
 if pphead l r f then (⟨0, 0⟩, false) else if r.any dbad then (⟨0, 0⟩, false) else if !pvalid ⟨(addr l).1, (dval r : Int)⟩ then (⟨0, 0⟩, false) else (⟨(addr l).1, (dval r : Int)⟩, true)
def pfxParse (s : Str) : TPfx × Bool := pfxP2 (Lib.cut s [47]).1 (Lib.cut s [47]).2.1 (Lib.cut s [47]).2.2
theorem cut_len (s sep : Str) : (Lib.cut s sep).1.length ≤ s.length ∧ (Lib.cut s sep).2.1.length ≤ s.length := by
 unfold Lib.cut
 split <;> simp
 omega
theorem c129' (s : Str) (hl : Small s) : PFun Tryz.prog Gl 104 [.str s] fun r => r = .tup [.int .u32 (addr s).1, .bool (addr s).2] := (c129 s hl).mono fun _ h => h
theorem c104 (hG : GM Gl) (s : Str) (hl : s.length < 4294967281) : PFun Tryz.prog Gl 138 [.str s] fun r => r = .tup [ePfx (pfxParse s).1, .bool (pfxParse s).2] := by
 refine PFun.of hT Tryz.func138 rfl fun B hD => ?_
 refine pw_norm rfl ?_
 have hcl := cut_len s [47]
 have hpp : pfxParse s = pfxP2 (Lib.cut s [47]).1 (Lib.cut s [47]).2.1 (Lib.cut s [47]).2.2 := rfl
 rw [hpp]
 clear hpp
 (refine zGo ?_)
 (refine pl_op rfl (op_fun (c128 hG s [47] hl) rfl rfl e147 zLe rfl (fun r hr => ?_)); subst hr; refine ⟨rfl, ?_⟩; (refine zNp ?_))
 generalize hc : Lib.cut s [47] = c at hcl ⊢
 obtain ⟨l, r, f⟩ := c
 clear hc
 dsimp only at hcl ⊢
 (refine zGo ?_)
 (refine pl_op rfl (op_fun (c129' l (by unfold Small; omega)) rfl rfl e104 zLe rfl (fun r hr => ?_)); subst hr; refine ⟨rfl, ?_⟩; (refine zNp ?_))
 (refine zGo ?_)
 (refine pl_or 3 25 28 (!(addr l).2) rfl rfl rfl (fun hb => ?_) (fun hb => ?_) ?_; (focus ((refine zNp ?_); (refine zGo ?_); exact ⟨zLe, StLe.refl _⟩)); (focus ((refine zNp ?_); (refine zGo ?_); exact ⟨zLe, StLe.refl _⟩)); (refine zNp ?_); (refine zGo ?_))
 (refine pl_or 4 29 33 ((r.length : Int) == 0) rfl rfl rfl (fun hb => ?_) (fun hb => ?_) ?_; (focus ((refine zNp ?_); (refine zGo ?_); exact ⟨zLe, StLe.refl _⟩)); (focus ((refine zNp ?_); (refine zGo ?_); exact ⟨zLe, StLe.refl _⟩)); (refine zNp ?_); (refine zGo ?_))
 (refine pl_or 4 34 38 (decide ((r.length : Int) > 2)) rfl rfl rfl (fun hb => ?_) (fun hb => ?_) ?_; (focus ((refine zNp ?_); (refine zGo ?_); exact ⟨zLe, StLe.refl _⟩)); (focus ((refine zNp ?_); (refine zGo ?_); exact ⟨zLe, StLe.refl _⟩)); (refine zNp ?_); (refine zGo ?_))
 refine pl_or 9 39 48 (((r.length : Int) == 2) && (((r.headD 0).toNat : Int) == 48)) rfl rfl rfl (fun hb => ?_) (fun hb => ?_) ?_
 ·refine pl_norm rfl ?_
  (refine zGo ?_)
  exact ⟨zLe, StLe.refl _⟩
 ·refine pl_norm rfl ?_
  (refine zGo ?_)
  (refine pl_and 4 43 47 (((r.headD 0).toNat : Int) == 48) rfl rfl rfl (fun hb => ?_) (fun hb => ?_) ?_; (focus ((refine zNp ?_); (refine zGo ?_); (refine pl_on rfl rfl (op_of (v_indexs (c := r.headD 0) hT rfl rfl rfl rfl (by omega) (head_some (by rintro rfl; simp at hb))) ?_); (refine zNp ?_)); (refine zGo ?_); exact ⟨zLe, StLe.refl _⟩)); (focus ((refine zNp ?_); (refine zGo ?_); exact ⟨zLe, StLe.refl _⟩)); (refine zNp ?_); (refine zGo ?_))
  exact ⟨zLe, StLe.refl _⟩
 refine pl_norm rfl ?_
 (refine zGo ?_)
 refine pw_cond rfl (fun h => ?_) (fun h => ?_)
 ·(refine zGo ?_)
  refine ret1 _ rfl ?_ rfl
  have h' : pphead l r f = true := h
  simp only [pfxP2, h', if_true]
  rfl
 have h' : pphead l r f = false := h
 have hh := h'
 simp only [pphead, Bool.or_eq_false_iff, decide_eq_false_iff_not] at hh
 (refine zGo ?_)
 have hr2 : r.length ≤ 2 := by omega
 refine pw_for hD (fun i : Nat => [(9, .int .i64 (dval (r.take i) : Int)), (10, .int .i64 i)]) (fun _ => [.box [.int .u32 0, .int .i64 0]]) (fun i => i ≤ r.length ∧ ∀ (j : Nat) c, j < i → r[j]? = some c → dbad c = false) (fun i => r.length - i) 0 ⟨by omega, by intro j c h; omega⟩ 1 rfl (fun _ => rfl) (StLe.refl _) (fun _ => rfl) (fun _ => rfl) zLe ?_
 rintro i ⟨hi, hno⟩
 (refine zGo ?_)
 refine pw_cond rfl (fun h2 => ?_) (fun h2 => ?_)
 ·simp only [decide_eq_true_eq] at h2
  have hlt : i < r.length := by omega
  (refine zGo ?_)
  (refine pl_op rfl (op_of (v_indexs (c := r[i]) hT rfl rfl rfl rfl (by omega) (by simp [hlt])) ?_); (refine zNp ?_))
  (refine zGo ?_)
  (refine pl_or 5 60 65 (decide ((r[i].toNat : Int) > 57)) rfl rfl rfl (fun hb => ?_) (fun hb => ?_) ?_; (focus ((refine zNp ?_); (refine zGo ?_); exact ⟨zLe, StLe.refl _⟩)); (focus ((refine zNp ?_); (refine zGo ?_); (refine pl_on rfl rfl (op_of (v_indexs (c := r[i]) hT rfl rfl rfl rfl (by omega) (by simp [hlt])) ?_); (refine zNp ?_)); (refine zGo ?_); exact ⟨zLe, StLe.refl _⟩)); (refine zNp ?_); (refine zGo ?_))
  refine pw_cond rfl (fun h3 => ?_) (fun h3 => ?_)
  ·(refine zGo ?_)
   refine ret1 _ rfl ?_ rfl
   have : r.any dbad = true := List.any_eq_true.2 ⟨r[i], List.getElem_mem hlt, h3⟩
   simp only [pfxP2, h', this, if_true, Bool.false_eq_true, if_false]
   rfl
  ·have h3' := h3
   simp only [Bool.or_eq_false_iff, decide_eq_false_iff_not] at h3'
   have hv : dval (r.take i) < 10 ^ 2 := by
    have := dval_lt (r.take i) (fun c hc => by
     obtain ⟨j, hj⟩ := List.mem_iff_getElem?.1 hc
     rw [List.getElem?_take] at hj
     split at hj
     ·exact hno j c (by assumption) hj
     ·cases hj)
    have h4 : (r.take i).length ≤ 2 := by simp; omega
    exact Nat.lt_of_lt_of_le this (Nat.pow_le_pow_right (by omega) h4)
   (refine zGo ?_)
   (refine pl_op rfl (op_of (v_indexs (c := r[i]) hT rfl rfl rfl rfl (by omega) (by simp [hlt])) ?_); (refine zNp ?_))
   (refine pl_op rfl (op_of (v_arith rfl rfl rfl rfl (IntWalk.u8_in _ (by omega))) ?_); (refine zNp ?_))
   (refine pl_op rfl (op_of (v_conv hT rfl rfl rfl rfl (IntWalk.i64_in _ (by omega))) ?_); (refine zNp ?_))
   (refine zGo ?_)
   have hs : (dval (r.take (i + 1)) : Int) = 10 * (dval (r.take i) : Int) + ((r[i].toNat : Int) - 48) := by
    rw [List.take_succ_eq_append_getElem hlt, dval_snoc]; omega
   refine ⟨i + 1, ⟨by omega, fun j d hj hd => ?_⟩, by omega, ?_, zLes⟩
   ·rcases Nat.lt_succ_iff_lt_or_eq.1 hj with hj | rfl
    ·exact hno j d hj hd
    ·rw [List.getElem?_eq_getElem hlt] at hd; cases hd; exact h3
   ·simp only [hs]
    (exact zLe)
 ·simp only [decide_eq_false_iff_not] at h2
  have hie : i = r.length := by omega
  subst hie
  have hany : r.any dbad = false := List.any_eq_false.2 fun c hc => by
   obtain ⟨j, hj⟩ := List.mem_iff_getElem?.1 hc
   simp [hno j c (by have := (List.getElem?_eq_some_iff.1 hj).1; omega) hj]
  rw [List.take_length]
  (refine zGo ?_)
  (refine pl_op rfl (op_fun (c45 ⟨(addr l).1, (dval r : Int)⟩) rfl rfl e148 zLe rfl (fun r hr => ?_)); subst hr; refine ⟨rfl, ?_⟩; (refine zNp ?_))
  (refine zGo ?_)
  refine pw_cond rfl (fun h3 => ?_) (fun h3 => ?_)
  ·(refine zGo ?_)
   refine ret1 _ rfl ?_ rfl
   simp only [pfxP2, h', hany, h3, if_true, Bool.false_eq_true, if_false]
   rfl
  ·(refine zGo ?_)
   refine ret1 _ rfl ?_ rfl
   simp only [pfxP2, h', hany, h3, Bool.false_eq_true, if_false]
   rfl
def isBlank (c : UInt8) : Bool := c == 32 || c == 9
def isSep (c : UInt8) : Bool := c == 44 || c == 61
def isWord (c : UInt8) : Bool := !isBlank c && !isSep c
def flush : Option Str → List Str
 | some w => [w]
 | none => []
def tk : Str → Option Str → List Str
 | [], cur => flush cur
 | c :: s, cur => match c == 35 with
  | true => flush cur
  | false => match isBlank c with
   | true => flush cur ++ tk s none
   | false => match isSep c with
    | true => flush cur ++ [c] :: tk s none
    | false => tk s (some (cur.getD [] ++ [c]))
theorem sub_snoc {s : Str} {k i : Nat} {c : UInt8} (h : s[i]? = some c) (hk : k ≤ i) : sub s k (i + 1) = sub s k i ++ [c] := by
 unfold sub
 obtain ⟨hi, rfl⟩ := List.getElem?_eq_some_iff.1 h
 rw [List.take_succ_eq_append_getElem hi, List.drop_append_of_le_length (by simp; omega)]
def noHash (c : UInt8) : Bool := !(c == 35)
def partsA (c : UInt8) : Str → Str → List Str
 | [], cur => [cur]
 | b :: s, cur => match b == c with
  | true => cur :: partsA c s []
  | false => partsA c s (cur ++ [b])
def parts (c : UInt8) (s : Str) : List Str := partsA c s []
theorem parts_none {c : UInt8} {s : Str} (h : c ∉ s) : ∀ cur, partsA c s cur = [cur ++ s] := by
 induction s with
 | nil => intro cur; simp [partsA]
 | cons b s ih =>
  intro cur
  simp only [List.mem_cons, not_or] at h
  rw [partsA, show (b == c) = false by simpa using fun e => h.1 e.symm]
  dsimp only
  rw [ih h.2]; simp
theorem parts_some {c : UInt8} {a b : Str} (h : c ∉ a) : ∀ cur, partsA c (a ++ c :: b) cur = (cur ++ a) :: parts c b := by
 induction a with
 | nil => intro cur; simp [partsA, parts]
 | cons x a ih =>
  intro cur
  simp only [List.mem_cons, not_or] at h
  rw [List.cons_append, partsA, show (x == c) = false by simpa using fun e => h.1 e.symm]
  dsimp only
  rw [ih h.2]; simp
theorem parts_len (c : UInt8) (s : Str) : (parts c s).length = s.count c + 1 := by
 have : ∀ (s cur : Str), (partsA c s cur).length = s.count c + 1 := by
  intro s
  induction s with
  | nil => intro cur; rfl
  | cons b s ih =>
   intro cur
   rw [partsA]
   cases h : b == c with
   | true => simp [ih, beq_iff_eq.1 h]
   | false => simp [ih, List.count_cons, h]
 exact this s []
theorem index_one (c : UInt8) : ∀ (s : Str), (c ∉ s ∧ Lib.index s [c] = -1) ∨ ∃ a b, s = a ++ c :: b ∧ c ∉ a ∧ Lib.index s [c] = (a.length : Int)
 | [] => .inl ⟨by simp, by simp [Lib.index]⟩
 | x :: s => by
  by_cases h : x = c
  ·subst h
   exact .inr ⟨[], s, rfl, by simp, by simp [Lib.index, List.isPrefixOf]⟩
  ·have hp : ([c] : List UInt8).isPrefixOf (x :: s) = false := by simp [List.isPrefixOf, Ne.symm h]
   rcases index_one c s with ⟨h1, h2⟩ | ⟨a, b, h1, h2, h3⟩
   ·refine .inl ⟨by simp [h1, Ne.symm h], ?_⟩
    rw [Lib.index, hp, h2]; rfl
   ·refine .inr ⟨x :: a, b, by rw [h1]; rfl, by simp [h2, Ne.symm h], ?_⟩
    rw [Lib.index, hp, h3]
    have : ¬ ((a.length : Int) == -1) = true := by simp
    simp [this]
theorem sub_nil (s : Str) (k : Nat) : sub s k k = [] := by unfold sub; exact List.drop_eq_nil_of_le (by simp; omega)
theorem byte_eq (a b : UInt8) : (((a.toNat : Int)) == ((b.toNat : Int))) = (a == b) := by
 rw [Bool.eq_iff_iff, beq_iff_eq, beq_iff_eq]
 constructor
 ·intro h; exact UInt8.toNat_inj.1 (by omega)
 ·rintro rfl; rfl
theorem get_getD {s : Str} {i : Nat} (h : i < s.length) : s[i]? = some (s.getD i 0) := by rw [List.getD, List.getElem?_eq_getElem h]; rfl
theorem drop_getD {s : Str} {i : Nat} (h : i < s.length) : s.drop i = s.getD i 0 :: s.drop (i + 1) := by
 rw [List.drop_eq_getElem_cons h, List.getD, List.getElem?_eq_getElem h]; rfl
theorem c58 (s : Str) (c : UInt8) (hl : Small s) : PFun Tryz.prog Gl 51 [.str s, .int .u8 c.toNat] fun r => r = .sl ((parts c s).map .str) := by
 refine PFun.of hT Tryz.func51 rfl fun B hD => ?_
 refine pw_norm rfl ?_
 unfold Small at hl
 (refine zGo ?_)
 refine pw_ghost 1 ?_
 refine pw_norm rfl ?_
 refine pw_for hD (fun a : Nat × List Str × Nat × Nat => [(5, .msl 1 0 0 (a.2.1.map PV.str).length a.2.2.2), (6, .int .i64 a.2.2.1), (7, .int .i64 a.1)]) (fun a => [.arr 1 (a.2.1.map .str) a.2.2.2])
  (fun a => a.2.1.length ≤ a.1 ∧ ((a.1 ≤ s.length ∧ a.2.2.1 ≤ a.1 ∧ a.2.1 ++ partsA c (s.drop a.1) (sub s a.2.2.1 a.1) = parts c s) ∨ (a.1 = s.length + 1 ∧ a.2.1 = parts c s))) (fun a => s.length + 1 - a.1) (0, [], 0, 0)
  ⟨Nat.zero_le _, .inl ⟨Nat.zero_le _, Nat.le_refl _, by simp [sub, parts]⟩⟩ 1 rfl (fun _ => rfl) ⟨.inl rfl, trivial⟩ (fun _ => rfl) (fun _ => rfl) zLe ?_
 rintro ⟨i, out, f, cap⟩ ⟨ho, hw⟩
 dsimp only at ho hw ⊢
 (refine zGo ?_)
 refine pw_cond rfl (fun h1 => ?_) (fun h1 => ?_)
 ·simp only [decide_eq_true_eq] at h1
  have hi : i ≤ s.length := by omega
  obtain ⟨-, hf, hw⟩ | ⟨e, -⟩ := hw
  ·(refine zGo ?_)
   (refine pl_or 6 18 24 (((s.getD i 0).toNat : Int) == (c.toNat : Int)) rfl rfl rfl (fun hb => ?_) (fun hb => ?_) ?_; (focus ((refine zNp ?_); (refine zGo ?_); exact ⟨zLe, StLe.refl _⟩)); (focus ((refine zNp ?_); (refine zGo ?_); have hlt : i < s.length := (by simp at hb; omega); (refine pl_on rfl rfl (op_of (v_indexs (c := s.getD i 0) hT rfl rfl rfl rfl (by omega) (get_getD hlt)) ?_); (refine zNp ?_)); (refine zGo ?_); exact ⟨zLe, StLe.refl _⟩)); (refine zNp ?_); (refine zGo ?_))
   refine pw_cond rfl (fun h2 => ?_) (fun h2 => ?_)
   ·(refine zGo ?_)
    (refine pl_op rfl (op_of (v_substr hT rfl rfl rfl rfl rfl (by omega) (by omega) (by omega)) ?_); (refine zNp ?_))
    (refine zGo ?_)
    (refine pl_append (b := 16) hT hD rfl rfl rfl rfl rfl rfl rfl rfl (.inl (Nat.zero_lt_succ _)) rfl rfl (by simp; omega) (fun cap' _ hcap => ?_); (refine zNp ?_))
    (refine zGo ?_)
    refine ⟨(i + 1, out ++ [sub s f i], i + 1, cap'), ⟨by show (out ++ [_]).length ≤ i + 1; simp; omega, ?_⟩, by show _ - (i + 1) < _ - i; omega, ?_, ?_⟩
    ·by_cases hlt : i < s.length
     ·refine .inl ⟨hlt, Nat.le_refl _, ?_⟩
      have h3 : ((s.getD i 0) == c) = true := by
       rw [← byte_eq]
       have h2' := h2
       rw [show ((i : Int) == (s.length : Int)) = false by simp; omega] at h2'
       exact h2'
      rw [drop_getD hlt, partsA, h3] at hw
      rw [← hw]
      simp [sub_nil]
     ·have e : i = s.length := by omega
      subst e
      refine .inr ⟨rfl, ?_⟩
      rw [← hw, List.drop_length]; rfl
    ·simp only [List.map_append, List.length_append]
     (exact zLe)
    ·simp only [List.map_append]
     (exact zLes)
   ·(refine zGo ?_)
    have h2' : ((i : Int) == (s.length : Int)) = false ∧ (((s.getD i 0).toNat : Int) == (c.toNat : Int)) = false := Bool.or_eq_false_iff.1 h2
    have hlt : i < s.length := by have := h2'.1; simp at this; omega
    have h3 : ((s.getD i 0) == c) = false := by rw [← byte_eq]; exact h2'.2
    refine ⟨(i + 1, out, f, cap), ⟨by show out.length ≤ i + 1; omega, .inl ⟨hlt, by show f ≤ i + 1; omega, ?_⟩⟩, by show _ - (i + 1) < _ - i; omega, zLe, zLes⟩
    rw [drop_getD hlt, partsA, h3] at hw
    rw [← hw, sub_snoc (get_getD hlt) hf]
  ·omega
 ·simp only [decide_eq_false_iff_not] at h1
  obtain ⟨h, -⟩ | ⟨-, rfl⟩ := hw
  ·omega
  ·(refine zGo ?_)
   exact ret0 _ _ rfl rfl (.inr (.inr (.inr (.inl ⟨_, _, _, _, _, _, rfl, rfl, rfl, rfl, rfl⟩)))) rfl
def dvalF (n : Int) (s : Str) : Int := s.foldl (fun n c => 10 * n + ((c.toNat : Int) - 48)) n
def rbad (most n : Int) (c : UInt8) : Bool := (dbad c || decide (n > (most - ((c.toNat : Int) - 48)).tdiv 10)) || decide (most < ((c.toNat : Int) - 48))
def rrun (most : Int) : Str → Int → Option Int
 | [], n => some n
 | c :: s, n => if rbad most n c = true then none else rrun most s (10 * n + ((c.toNat : Int) - 48))
def rhead (s : Str) : Bool := (s == []) || (decide ((s.length : Int) > 1) && (((s.headD 0).toNat : Int) == 48))
def readO (o : Option Int) : Int × Bool := match o with | some v => (v, true) | none => (0, false)
def rread (s : Str) (most : Int) : Int × Bool := if rhead s then (0, false) else readO (rrun most s 0)
theorem dbad_ok {c : UInt8} (h : dbad c = false) : 48 ≤ c.toNat ∧ c.toNat ≤ 57 := by
 simp only [dbad, Bool.or_eq_false_iff, decide_eq_false_iff_not] at h
 omega
theorem tdiv10 {a : Int} (h : 0 ≤ a) : a.tdiv 10 = a / 10 := Int.tdiv_eq_ediv_of_nonneg h
theorem rbad_ok {most n : Int} {c : UInt8} (_hn : 0 ≤ n) (h : rbad most n c = false) : dbad c = false ∧ 10 * n + ((c.toNat : Int) - 48) ≤ most := by
 simp only [rbad, Bool.or_eq_false_iff, decide_eq_false_iff_not] at h
 obtain ⟨⟨h1, h2⟩, h3⟩ := h
 have h4 := dbad_ok h1
 rw [tdiv10 (by omega)] at h2
 exact ⟨h1, by omega⟩
theorem rbad_no {most n : Int} {c : UInt8} (hd : dbad c = false) (h : 10 * n + ((c.toNat : Int) - 48) ≤ most) (hn : 0 ≤ n) : rbad most n c = false := by
 have h4 := dbad_ok hd
 simp only [rbad, Bool.or_eq_false_iff, decide_eq_false_iff_not]
 rw [tdiv10 (by omega)]
 exact ⟨⟨hd, by omega⟩, by omega⟩
theorem dvalF_ge : ∀ (s : Str) (n : Int), 0 ≤ n → s.any dbad = false → n ≤ dvalF n s
 | [], n, _, _ => Int.le_refl _
 | c :: s, n, hn, h => by
  rw [List.any_cons, Bool.or_eq_false_iff] at h
  have h4 := dbad_ok h.1
  have := dvalF_ge s (10 * n + ((c.toNat : Int) - 48)) (by omega) h.2
  show n ≤ dvalF (10 * n + ((c.toNat : Int) - 48)) s
  omega
theorem dvalF_nil (n : Int) : dvalF n [] = n := by unfold dvalF; exact List.foldl_nil
theorem rrun_eq (most : Int) (s : Str) : ∀ (n : Int), 0 ≤ n → n ≤ most → rrun most s n = if (!(s.any dbad) && decide (dvalF n s ≤ most)) = true then some (dvalF n s) else none := by
 induction s with
 | nil =>
  intro n _ h
  rw [rrun, dvalF_nil, List.any_nil, if_pos (by rw [decide_eq_true h]; rfl)]
 | cons c s ih =>
  intro n hn h
  rw [rrun, List.any_cons]
  have e : dvalF n (c :: s) = dvalF (10 * n + ((c.toNat : Int) - 48)) s := rfl
  rw [e]
  cases hd : dbad c with
  | true => simp [rbad, hd]
  | false =>
   have h4 := dbad_ok hd
   cases hb : rbad most n c with
   | false =>
    have h5 := rbad_ok hn hb
    rw [if_neg Bool.false_ne_true, ih _ (by omega) h5.2, Bool.false_or]
   | true =>
    rw [if_pos rfl, if_neg]
    intro hh
    simp only [Bool.false_or, Bool.and_eq_true, Bool.not_eq_true', decide_eq_true_eq] at hh
    have h6 := dvalF_ge s (10 * n + ((c.toNat : Int) - 48)) (by omega) hh.1
    have h7 := rbad_no (most := most) hd (by omega) hn
    rw [h7] at hb; cases hb
theorem dval_F : ∀ (s : Str) (n : Nat), s.any dbad = false → ((s.foldl (fun n c => 10 * n + (c.toNat - 48)) n : Nat) : Int) = dvalF n s
 | [], n, _ => by simp [dvalF]
 | c :: s, n, h => by
  rw [List.any_cons, Bool.or_eq_false_iff] at h
  have h4 := dbad_ok h.1
  have h5 := dval_F s (10 * n + (c.toNat - 48)) h.2
  rw [List.foldl_cons, h5]
  unfold dvalF
  rw [List.foldl_cons]
  congr 1
  omega
theorem rread_eq (s : Str) (most : Int) (h0 : 0 ≤ most) : rread s most = if (!(rhead s) && (!(s.any dbad) && decide ((dval s : Int) ≤ most))) = true then ((dval s : Int), true) else (0, false) := by
 unfold rread
 rw [rrun_eq most s 0 (Int.le_refl _) h0]
 cases h1 : rhead s with
 | true => simp
 | false =>
  cases h2 : s.any dbad with
  | true => simp [readO]
  | false =>
   have h3 : (dval s : Int) = dvalF 0 s := dval_F s 0 h2
   rw [← h3]
   cases h4 : decide ((dval s : Int) ≤ most) <;> simp [readO]
theorem mask_nat (k : Nat) (hk : k ≤ 32) : mask (32 - k : Int) = ((2 ^ 32 - 2 ^ k : Nat) : Int) := by
 unfold mask
 rw [show (min ((32 : Int) - (32 - (k : Int))).toNat 32) = k by omega, IntKind.wrap_u32]
 have h1 : (2 : Nat) ^ k ≤ 2 ^ 32 := Nat.pow_le_pow_right (by omega) hk
 have h4 : 0 < 2 ^ k := Nat.two_pow_pos k
 have h5 : (2 : Int) ^ k = ((2 ^ k : Nat) : Int) := (Int.natCast_pow 2 k).symm
 rw [h5]
 generalize (2 : Nat) ^ k = q at h1 h4
 omega
theorem ofInt_nat (n : Nat) : (BitVec.ofInt 32 (n : Int)).toNat = n % 2 ^ 32 := by
 rw [BitVec.ofInt_natCast, BitVec.toNat_ofNat]
theorem andN_mask (a k : Nat) (ha : a < 2 ^ 32) (hk : k ≤ 32) : andN (a : Int) (mask (32 - k : Int)) = ((a % 2 ^ k : Nat) : Int) := by
 unfold andN
 have h0 : 0 < 2 ^ k := Nat.two_pow_pos k
 have h2 : (2 : Nat) ^ k ≤ 2 ^ 32 := Nat.pow_le_pow_right (by omega) hk
 have h1 : (2 : Nat) ^ 32 - 2 ^ k < 2 ^ 32 := by omega
 rw [mask_nat k hk, BitVec.toNat_and, BitVec.toNat_not, ofInt_nat, ofInt_nat, Nat.mod_eq_of_lt ha, Nat.mod_eq_of_lt h1, show 2 ^ 32 - 1 - (2 ^ 32 - 2 ^ k) = 2 ^ k - 1 by omega, Nat.and_two_pow_sub_one_eq_mod]
 refine IntWalk.u32_in _ ⟨by omega, ?_⟩
 have : a % 2 ^ k ≤ a := Nat.mod_le _ _
 omega
theorem rsize_nat (k : Nat) (hk : k ≤ 32) : rsize (32 - k : Int) = ((2 ^ k : Nat) : Int) := by
 unfold rsize
 have h2 : (2 : Nat) ^ k ≤ 2 ^ 32 := Nat.pow_le_pow_right (by omega) hk
 rw [show (min ((32 : Int) - (32 - (k : Int))).toNat 64) = k by omega, Int.one_mul]
 have h5 : (2 : Int) ^ k = ((2 ^ k : Nat) : Int) := (Int.natCast_pow 2 k).symm
 rw [h5]
 generalize (2 : Nat) ^ k = q at h2
 exact IntWalk.u64_in _ ⟨by omega, by omega⟩
theorem pfx_nat {p : TPfx} (h : 0 ≤ p.addr ∧ p.addr < 4294967296) (hb : 0 ≤ p.bits ∧ p.bits ≤ 32) : ∃ n k : Nat, n < 2 ^ 32 ∧ k ≤ 32 ∧ p.addr = n ∧ p.bits = 32 - (k : Int) :=
 ⟨p.addr.toNat, (32 - p.bits).toNat, by omega, by omega, by omega, by omega⟩
theorem valid_eq (p : TPfx) (h : 0 ≤ p.addr ∧ p.addr < 4294967296) : pvalid p = rvalid p := by
 unfold pvalid rvalid
 by_cases hb : 0 ≤ p.bits ∧ p.bits ≤ 32
 ·obtain ⟨n, k, hn, hk, ea, eb⟩ := pfx_nat h hb
  have h5 : (((n : Int)).tmod ((2 ^ k : Nat) : Int)) = ((n % 2 ^ k : Nat) : Int) := rfl
  rw [ea, eb, andN_mask n k hn hk, rsize_nat k hk, IntWalk.u64_in _ (by omega), h5]
 ·by_cases h0 : 0 ≤ p.bits
  ·have h1 : ¬ p.bits ≤ 32 := fun h => hb ⟨h0, h⟩
   simp [h1]
  ·simp [h0]
def okOct (s : Str) : Bool := (rread s 255).2
structure Cur (p : List Int) (n d : Nat) (cur : Str) : Prop where
 len : p.length = 4
 n3 : n ≤ 3
 d : d = cur.length
 digs : cur.any dbad = false
 val : p.getD n 0 = (dval cur : Int)
 le : (dval cur : Int) ≤ 255
 head : cur.length ≤ 1 ∨ ¬ (cur.headD 0).toNat = 48
 rest : ∀ j, n < j → p.getD j 0 = 0
theorem okOct_eq (s : Str) : okOct s = (!(rhead s) && (!(s.any dbad) && decide ((dval s : Int) ≤ 255))) := by
 unfold okOct
 rw [rread_eq s 255 (by decide)]
 split
 ·rename_i h; rw [h]
 ·rename_i h; rw [Bool.eq_false_iff.2 h]
theorem Cur.ok {p : List Int} {n d : Nat} {cur : Str} (h : Cur p n d cur) : okOct cur = decide (0 < d) := by
 rw [okOct_eq, h.digs, decide_eq_true h.le, h.d]
 cases cur with
 | nil => rfl
 | cons c l =>
  have : rhead (c :: l) = false := by
   rcases h.head with h1 | h1
   ·have : l = [] := by cases l with | nil => rfl | cons _ _ => simp at h1
    subst this; rfl
   ·have h2 : (((List.headD (c :: l) 0).toNat : Int) == 48) = false := by simp at h1 ⊢; omega
    simp only [rhead, h2, Bool.and_false, Bool.or_false]; rfl
  rw [this]; simp
abbrev Caps := Nat × Nat × Nat × Nat
structure WOk (w : List Str) : Prop where
 len : Small w
 each : ∀ x ∈ w, x.length < 4294967281
theorem WOk.at {w : List Str} (h : WOk w) (i : Nat) : (w.getD i []).length < 4294967281 := by
 rw [List.getD]
 cases hx : w[i]? with
 | none => simp
 | some x => exact h.each x (List.mem_of_getElem? hx)
theorem str_at (w : List Str) (i : Nat) (h : i < w.length) : (w.map PV.str)[i]? = some (.str (w.getD i [])) := by
 rw [List.getElem?_map, List.getD, List.getElem?_eq_getElem h]; rfl
structure TOk (t : Topo) : Prop where
 devs : Small t.devs
 links : Small t.links
 edges : Small t.edges
 pools : Small t.pools
def PfxIn (p : TPfx) : Prop := 0 ≤ p.addr ∧ p.addr < 4294967296
def someBits : List Int := [32, 31, 24, 25, 8, 1, 0, 16, 30, 23]
theorem subnets_in {p : TPfx} (h : p ∈ subnets) : PfxIn p := by
 have : ∀ p ∈ subnets, 0 ≤ p.addr ∧ p.addr < 4294967296 := by decide
 exact this p h
def mTopo (n : Nat) (t : Topo) (c : Caps) : List PV := [.msl 5 n 0 (t.devs.map eDev).length c.1, .msl 3 (n + 1) 0 (t.links.map eLink).length c.2.1, .msl 6 (n + 2) 0 (t.edges.map eEdge).length c.2.2.1, .msl 2 (n + 3) 0 (t.pools.map ePfx).length c.2.2.2, .int .i64 t.tol]
def aTopo (t : Topo) (c : Caps) : List PObj := [.arr 5 (t.devs.map eDev) c.1, .arr 3 (t.links.map eLink) c.2.1, .arr 6 (t.edges.map eEdge) c.2.2.1, .arr 2 (t.pools.map ePfx) c.2.2.2]
def rcov (p q : TPfx) : Bool := (rvalid q && rcont p (rof q).1) && rcont p (rof q).2
def rmeet (p q : TPfx) : Bool := rcov p q || rcov q p
def fixed (l : List TEdge) : List TPfx := (l.filter fun e => !e.planned).map TEdge.pfx
def let1 (c : UInt8) : Bool := decide ((c.toNat : Int) ≥ 97) && decide ((c.toNat : Int) ≤ 122)
def dig1 (c : UInt8) : Bool := decide ((c.toNat : Int) ≥ 48) && decide ((c.toNat : Int) ≤ 57)
def oth1 (c : UInt8) : Bool := (dig1 c || ((c.toNat : Int) == 45)) || ((c.toNat : Int) == 95)
theorem vbyte_eq (c : UInt8) : vbyte c = (let1 c || oth1 c) := by
 unfold vbyte oth1
 show (!(((!(let1 c) && !(dig1 c)) && ((c.toNat : Int) != 45)) && ((c.toNat : Int) != 95))) = _
 generalize let1 c = a
 generalize dig1 c = b
 rw [bne, bne]
 generalize ((c.toNat : Int) == 45) = d
 generalize ((c.toNat : Int) == 95) = e
 cases a <;> cases b <;> cases d <;> cases e <;> rfl
def nmHead (s : Str) : Bool := ((s == []) || decide ((s.length : Int) > 24)) || (s == [97, 110, 121])
theorem vname_eq (s : Str) : vname s = (!(nmHead s) && (let1 (s.headD 0) && s.all vbyte)) := by
 unfold vname vhead
 show (!((nmHead s || decide (((s.headD 0).toNat : Int) < 97)) || decide (((s.headD 0).toNat : Int) > 122)) && _) = _
 have : (!decide (((s.headD 0).toNat : Int) < 97) && !decide (((s.headD 0).toNat : Int) > 122)) = let1 (s.headD 0) := by
  unfold let1
  rw [Bool.eq_iff_iff]
  simp only [Bool.and_eq_true, Bool.not_eq_true', decide_eq_false_iff_not, decide_eq_true_eq]
  omega
 rw [← this]
 generalize nmHead s = a
 generalize decide (((s.headD 0).toNat : Int) < 97) = b
 generalize decide (((s.headD 0).toNat : Int) > 122) = c
 cases a <;> cases b <;> cases c <;> simp
theorem c92 (s : Str) : PFun Tryz.prog Gl 75 [.str s] fun r => r = .bool (vname s) := by
 refine PFun.of hT Tryz.func75 rfl fun B hD => ?_
 refine pw_norm rfl ?_
 rw [vname_eq]
 (refine zGo ?_)
 (refine pl_or 4 8 12 (decide ((s.length : Int) > 24)) rfl rfl rfl (fun hb => ?_) (fun hb => ?_) ?_; (focus ((refine zNp ?_); (refine zGo ?_); exact ⟨zLe, StLe.refl _⟩)); (focus ((refine zNp ?_); (refine zGo ?_); exact ⟨zLe, StLe.refl _⟩)); (refine zNp ?_); (refine zGo ?_))
 (refine pl_or 3 13 16 (s == [97, 110, 121]) rfl rfl rfl (fun hb => ?_) (fun hb => ?_) ?_; (focus ((refine zNp ?_); (refine zGo ?_); exact ⟨zLe, StLe.refl _⟩)); (focus ((refine zNp ?_); (refine zGo ?_); exact ⟨zLe, StLe.refl _⟩)); (refine zNp ?_); (refine zGo ?_))
 refine pw_cond rfl (fun h => ?_) (fun h => ?_)
 ·have h' : nmHead s = true := h
  rw [h']
  (refine zGo ?_)
  exact ret1 _ rfl rfl rfl
 have h' : nmHead s = false := h
 have hh := h'
 simp only [nmHead, Bool.or_eq_false_iff, decide_eq_false_iff_not] at hh
 rw [h', Bool.not_false, Bool.true_and]
 (refine zGo ?_)
 refine pw_for hD (fun i : Nat => [(3, .int .i64 i)]) (fun _ => []) (fun i => i ≤ s.length ∧ (s.drop i).all vbyte = s.all vbyte ∧ (0 < i → let1 (s.headD 0) = true)) (fun i => s.length - i) 0 ⟨Nat.zero_le _, rfl, by intro h; omega⟩ 0 rfl (fun _ => rfl) (StLe.refl _) (fun _ => rfl) (fun _ => rfl) zLe ?_
 rintro i ⟨hi, hw, hd⟩
 (refine zGo ?_)
 refine pw_cond rfl (fun h1 => ?_) (fun h1 => ?_)
 ·simp only [decide_eq_true_eq] at h1
  have hlt : i < s.length := by omega
  have hg := get_getD hlt
  have h00 : i = 0 → s.getD i 0 = s.headD 0 := by rintro rfl; cases s <;> rfl
  rw [drop_getD hlt, List.all_cons] at hw
  generalize s.getD i 0 = c at hg hw h00
  (refine zGo ?_)
  (refine pl_op rfl (op_of (v_indexs (c := c) hT rfl rfl rfl rfl (by omega) (hg)) ?_); (refine zNp ?_))
  (refine zGo ?_)
  (refine pl_and 5 27 32 (decide ((c.toNat : Int) ≤ 122)) rfl rfl rfl (fun hb => ?_) (fun hb => ?_) ?_; (focus ((refine zNp ?_); (refine zGo ?_); (refine pl_on rfl rfl (op_of (v_indexs (c := c) hT rfl rfl rfl rfl (by omega) (hg)) ?_); (refine zNp ?_)); (refine zGo ?_); exact ⟨zLe, StLe.refl _⟩)); (focus ((refine zNp ?_); (refine zGo ?_); exact ⟨zLe, StLe.refl _⟩)); (refine zNp ?_); (refine zGo ?_))
  (refine pl_op rfl (op_of (v_indexs (c := c) hT rfl rfl rfl rfl (by omega) (hg)) ?_); (refine zNp ?_))
  (refine zGo ?_)
  (refine pl_and 5 37 42 (decide ((c.toNat : Int) ≤ 57)) rfl rfl rfl (fun hb => ?_) (fun hb => ?_) ?_; (focus ((refine zNp ?_); (refine zGo ?_); (refine pl_on rfl rfl (op_of (v_indexs (c := c) hT rfl rfl rfl rfl (by omega) (hg)) ?_); (refine zNp ?_)); (refine zGo ?_); exact ⟨zLe, StLe.refl _⟩)); (focus ((refine zNp ?_); (refine zGo ?_); exact ⟨zLe, StLe.refl _⟩)); (refine zNp ?_); (refine zGo ?_))
  (refine pl_or 5 43 48 ((c.toNat : Int) == 45) rfl rfl rfl (fun hb => ?_) (fun hb => ?_) ?_; (focus ((refine zNp ?_); (refine zGo ?_); exact ⟨zLe, StLe.refl _⟩)); (focus ((refine zNp ?_); (refine zGo ?_); (refine pl_on rfl rfl (op_of (v_indexs (c := c) hT rfl rfl rfl rfl (by omega) (hg)) ?_); (refine zNp ?_)); (refine zGo ?_); exact ⟨zLe, StLe.refl _⟩)); (refine zNp ?_); (refine zGo ?_))
  (refine pl_or 5 49 54 ((c.toNat : Int) == 95) rfl rfl rfl (fun hb => ?_) (fun hb => ?_) ?_; (focus ((refine zNp ?_); (refine zGo ?_); exact ⟨zLe, StLe.refl _⟩)); (focus ((refine zNp ?_); (refine zGo ?_); (refine pl_on rfl rfl (op_of (v_indexs (c := c) hT rfl rfl rfl rfl (by omega) (hg)) ?_); (refine zNp ?_)); (refine zGo ?_); exact ⟨zLe, StLe.refl _⟩)); (refine zNp ?_); (refine zGo ?_))
  refine pl_and 7 57 64 (!oth1 c || ((i : Int) == 0)) rfl rfl rfl (fun hb => ?_) (fun hb => ?_) ?_
  ·refine pl_norm rfl ?_
   (refine zGo ?_)
   (refine pl_or 3 60 63 ((i : Int) == 0) rfl rfl rfl (fun hb => ?_) (fun hb => ?_) ?_; (focus ((refine zNp ?_); (refine zGo ?_); exact ⟨zLe, StLe.refl _⟩)); (focus ((refine zNp ?_); (refine zGo ?_); exact ⟨zLe, StLe.refl _⟩)); (refine zNp ?_); (refine zGo ?_))
   exact ⟨zLe, StLe.refl _⟩
  ·refine pl_norm rfl ?_
   (refine zGo ?_)
   exact ⟨zLe, StLe.refl _⟩
  refine pl_norm rfl ?_
  (refine zGo ?_)
  refine pw_cond rfl (fun h2 => ?_) (fun h2 => ?_)
  ·have h2' : (!let1 c && (!oth1 c || ((i : Int) == 0))) = true := h2
   (refine zGo ?_)
   refine ret1 _ rfl ?_ rfl
   refine congrArg PV.bool ?_
   simp only [Bool.and_eq_true, Bool.not_eq_true', Bool.or_eq_true] at h2'
   rcases h2'.2 with h3 | h3
   ·rw [← hw, vbyte_eq, h2'.1, h3]; simp
   ·have hi0 : i = 0 := by simpa using h3
    rw [← h00 hi0, h2'.1]; rfl
  ·have h2' : (!let1 c && (!oth1 c || ((i : Int) == 0))) = false := h2
   (refine zGo ?_)
   refine ⟨i + 1, ⟨hlt, ?_, fun _ => ?_⟩, by omega, zLe, StLe.refl _⟩
   ·rw [← hw, vbyte_eq]
    cases h3 : let1 c with
    | true => rfl
    | false =>
     rw [h3] at h2'
     simp only [Bool.not_false, Bool.true_and, Bool.or_eq_false_iff, Bool.not_eq_false'] at h2'
     rw [h2'.1]; rfl
   ·by_cases hi0 : i = 0
    ·rw [← h00 hi0]
     cases h3 : let1 c with
     | true => rfl
     | false => rw [h3, hi0] at h2'; simp at h2'
    ·exact hd (by omega)
 ·simp only [decide_eq_false_iff_not] at h1
  have hie : i = s.length := by omega
  have hpos : 0 < s.length := by
   cases s with
   | nil => exact absurd hh.1.1 (by decide)
   | cons _ _ => simp
  rw [hie, List.drop_length, List.all_nil] at hw
  (refine zGo ?_)
  refine ret1 _ rfl ?_ rfl
  rw [← hw, hd (by omega)]; rfl
abbrev dec (n : Nat) : Str := Lib.decDigits n
theorem dec_lt {n : Nat} (h : n < 10) : dec n = [UInt8.ofNat (48 + n)] := Lib.decDigits_one h
theorem dec_ge {n : Nat} (h : ¬ n < 10) : dec n = dec (n / 10) ++ [UInt8.ofNat (48 + n % 10)] := by rw [dec, Lib.decDigits, dif_neg h]
theorem dec_len : ∀ (k n : Nat), n < 10 ^ (k + 1) → (dec n).length ≤ k + 1
 | 0, n, h => by rw [dec_lt (by omega)]; simp
 | k + 1, n, h => by
  by_cases h1 : n < 10
  ·rw [dec_lt h1]; simp
  ·rw [dec_ge h1, List.length_append, List.length_singleton]
   have h2 : (10 : Nat) ^ (k + 1 + 1) = 10 ^ (k + 1) * 10 := Nat.pow_succ ..
   have := dec_len k (n / 10) (by omega)
   omega
theorem dig_nat (d : Nat) (h : d < 10) : (48 + (d : Int)) = ((UInt8.ofNat (48 + d)).toNat : Int) := by
 rw [UInt8.toNat_ofNat', Nat.mod_eq_of_lt (by omega)]; omega
theorem dig_wrap (d : Nat) (h : d < 10) : IntKind.u8.wrap (48 + (d : Int)) = ((UInt8.ofNat (48 + d)).toNat : Int) := by
 rw [IntWalk.u8_in _ (by omega), dig_nat d h]
theorem c35 : ∀ (k n : Nat), k ≤ 17 → n < 10 ^ (k + 1) → PFun Tryz.prog Gl 35 [.int .i64 n] fun r => r = .str (dec n) := by
 intro k
 induction k with
 | zero =>
  intro n _ hn
  have h10 : n < 10 := by omega
  refine PFun.of hT Tryz.func35 rfl fun B hD => ?_
  refine pw_norm rfl ?_
  rw [dec_lt h10]
  (refine zGo ?_)
  refine pw_cond rfl (fun h => ?_) (fun h => ?_)
  ·(refine zGo ?_)
   (refine pl_op rfl (op_of (v_conv (c := ((UInt8.ofNat (48 + n)).toNat : Int)) hT rfl rfl rfl rfl (dig_wrap n h10)) ?_); (refine zNp ?_))
   (refine zGo ?_)
   (refine pl_op rfl (op_of (v_bstr (bs := [UInt8.ofNat (48 + n)]) hT rfl rfl rfl rfl rfl) ?_); (refine zNp ?_))
   (refine zGo ?_)
   exact ret1 _ rfl rfl rfl
  ·simp only [decide_eq_false_iff_not] at h; omega
 | succ k ih =>
  intro n hk hn
  have hp : (10 : Nat) ^ (k + 1 + 1) = 10 ^ (k + 1) * 10 := Nat.pow_succ ..
  have hp2 : (10 : Nat) ^ (k + 1 + 1) ≤ 10 ^ 18 := Nat.pow_le_pow_right (by omega) (by omega)
  refine PFun.of hT Tryz.func35 rfl fun B hD => ?_
  refine pw_norm rfl ?_
  (refine zGo ?_)
  refine pw_cond rfl (fun h => ?_) (fun h => ?_)
  ·have h10 : n < 10 := by simp only [decide_eq_true_eq] at h; omega
   rw [dec_lt h10]
   (refine zGo ?_)
   (refine pl_op rfl (op_of (v_conv (c := ((UInt8.ofNat (48 + n)).toNat : Int)) hT rfl rfl rfl rfl (dig_wrap n h10)) ?_); (refine zNp ?_))
   (refine zGo ?_)
   (refine pl_op rfl (op_of (v_bstr (bs := [UInt8.ofNat (48 + n)]) hT rfl rfl rfl rfl rfl) ?_); (refine zNp ?_))
   (refine zGo ?_)
   exact ret1 _ rfl rfl rfl
  ·have h10 : ¬ n < 10 := by simp only [decide_eq_false_iff_not] at h; omega
   rw [dec_ge h10]
   have hl := dec_len k (n / 10) (by omega)
   obtain ⟨q, hq⟩ : ∃ q, q = n % 10 := ⟨_, rfl⟩
   rw [← hq]
   (refine zGo ?_)
   refine zDr [[0,1,3,4,5,6,7,8],[2],[9,10]] ?_
   (refine zDgo ?_)
   (refine po_val rfl rfl (v_quo (c := ((n / 10 : Nat) : Int)) rfl rfl rfl (by decide) (by rw [Int.tdiv_eq_ediv_of_nonneg (by omega), IntWalk.i64_in _ (by omega)]; omega)) ?_; refine zDn ?_)
   (refine zDgo ?_)
   (refine po_val rfl rfl (v_rem (c := (q : Int)) rfl rfl rfl (by decide) (by rw [Int.tmod_eq_emod_of_nonneg (by omega)]; omega)) ?_; refine zDn ?_)
   (refine zDgo ?_)
   (refine po_val rfl rfl (v_conv (c := ((UInt8.ofNat (48 + q)).toNat : Int)) hT rfl rfl rfl rfl (dig_wrap q (by omega))) ?_; refine zDn ?_)
   (refine zDgo ?_)
   (refine po_make rfl rfl (fun st' K hK => op_litF hT rfl rfl rfl rfl rfl (by decide) rfl rfl rfl rfl hK) ?_; refine zDn ?_)
   (refine po_val rfl rfl (v_bstr (bs := [UInt8.ofNat (48 + q)]) hT rfl rfl rfl rfl rfl) ?_; refine zDn ?_)
   (refine zDgo ?_)
   (refine po_step rfl rfl (op_fun (ih (n / 10) (by omega) (by omega)) rfl rfl e35 zLe rfl (fun r hr => ?_)); subst hr; refine ⟨rfl, zLok, ?_⟩; refine zDn ?_)
   (refine zDgo ?_)
   (refine po_val rfl rfl (v_concat rfl rfl rfl (by simp; omega)) ?_; refine zDn ?_)
   (refine zDgo ?_)
   (refine zGo ?_)
   exact ret1 _ rfl rfl rfl
theorem c35s (n : Int) (h0 : 0 ≤ n) (h1 : n < 10000) : PFun Tryz.prog Gl 35 [.int .i64 n] fun r => r = .str (dec n.toNat) := by
 have := c35 (Gl := Gl) 3 n.toNat (by omega) (by omega)
 rw [Int.toNat_of_nonneg h0] at this
 exact this
theorem dec_small {n : Nat} (h : n < 10000) : (dec n).length ≤ 4 := dec_len 3 n (by omega)
def oct (a : Nat) (k : Nat) : Nat := a / 2 ^ k % 256
def addrS (a : Nat) : Str := dec (oct a 24) ++ [46] ++ dec (oct a 16) ++ [46] ++ dec (oct a 8) ++ [46] ++ dec (oct a 0)
theorem oct_lt (a k : Nat) : oct a k < 256 := Nat.mod_lt _ (by omega)
theorem fdiv_nat (a k : Nat) : (a : Int).fdiv (2 ^ k) = ((a / 2 ^ k : Nat) : Int) := by
 rw [Int.fdiv_eq_ediv_of_nonneg _ (by have := Nat.two_pow_pos k; exact_mod_cast Nat.zero_le _)]
 norm_cast
theorem u8c (n : Nat) (h : n < 256) : PFun Tryz.prog Gl 35 [.int .i64 (n : Int)] fun r => r = .str (dec n) := c35 2 n (by omega) (by omega)
theorem c81 (a : Nat) (ha : a < 4294967296) : PFun Tryz.prog Gl 34 [.int .u32 (a : Int)] fun r => r = .str (addrS a) := by
 refine PFun.of hT Tryz.func34 rfl fun B hD => ?_
 refine pw_norm rfl ?_
 have l0 : (dec (oct a 0)).length ≤ 4 := dec_small (by have := oct_lt a 0; omega)
 have l1 : (dec (oct a 8)).length ≤ 4 := dec_small (by have := oct_lt a 8; omega)
 have l2 : (dec (oct a 16)).length ≤ 4 := dec_small (by have := oct_lt a 16; omega)
 have l3 : (dec (oct a 24)).length ≤ 4 := dec_small (by have := oct_lt a 24; omega)
 have e24 : ((a / 2 ^ 24 : Nat) : Int) = (oct a 24 : Int) := by unfold oct; omega
 have r16 : ((a / 2 ^ 16 : Nat) : Int).tmod 256 = (oct a 16 : Int) := by rw [Int.tmod_eq_emod_of_nonneg (by omega)]; unfold oct; omega
 have r8 : ((a / 2 ^ 8 : Nat) : Int).tmod 256 = (oct a 8 : Int) := by rw [Int.tmod_eq_emod_of_nonneg (by omega)]; unfold oct; omega
 have r0 : (a : Int).tmod 256 = (oct a 0 : Int) := by rw [Int.tmod_eq_emod_of_nonneg (by omega)]; unfold oct; omega
 have hw : ∀ k, IntKind.i64.wrap (oct a k : Int) = (oct a k : Int) := fun k => by have := oct_lt a k; rw [IntWalk.i64_in _ (by omega)]
 (refine zGo ?_)
 (refine pl_op rfl (op_of (v_shr (c := (oct a 24 : Int)) rfl rfl rfl (by decide) (by rw [← e24]; exact fdiv_nat a 24)) ?_); (refine zNp ?_))
 (refine zGo ?_)
 (refine pl_op rfl (op_of (v_conv (c := (oct a 24 : Int)) hT rfl rfl rfl rfl (hw 24)) ?_); (refine zNp ?_))
 (refine zGo ?_)
 (refine pl_op rfl (op_fun (u8c (oct a 24) (oct_lt a 24)) rfl rfl e35 zLe rfl (fun r hr => ?_)); subst hr; refine ⟨rfl, ?_⟩; (refine zNp ?_))
 (refine zGo ?_)
 (refine pl_op rfl (op_of (v_concat rfl rfl rfl (by simp; omega)) ?_); (refine zNp ?_))
 (refine zGo ?_)
 (refine pl_op rfl (op_of (v_shr (c := ((a / 2 ^ 16 : Nat) : Int)) rfl rfl rfl (by decide) (fdiv_nat a 16)) ?_); (refine zNp ?_))
 (refine zGo ?_)
 (refine pl_op rfl (op_of (v_rem (c := (oct a 16 : Int)) rfl rfl rfl (by decide) r16) ?_); (refine zNp ?_))
 (refine zGo ?_)
 (refine pl_op rfl (op_of (v_conv (c := (oct a 16 : Int)) hT rfl rfl rfl rfl (hw 16)) ?_); (refine zNp ?_))
 (refine zGo ?_)
 (refine pl_op rfl (op_fun (u8c (oct a 16) (oct_lt a 16)) rfl rfl e35 zLe rfl (fun r hr => ?_)); subst hr; refine ⟨rfl, ?_⟩; (refine zNp ?_))
 (refine zGo ?_)
 (refine pl_op rfl (op_of (v_concat rfl rfl rfl (by simp; omega)) ?_); (refine zNp ?_))
 (refine zGo ?_)
 (refine pl_op rfl (op_of (v_concat rfl rfl rfl (by simp; omega)) ?_); (refine zNp ?_))
 (refine zGo ?_)
 (refine pl_op rfl (op_of (v_shr (c := ((a / 2 ^ 8 : Nat) : Int)) rfl rfl rfl (by decide) (fdiv_nat a 8)) ?_); (refine zNp ?_))
 (refine zGo ?_)
 (refine pl_op rfl (op_of (v_rem (c := (oct a 8 : Int)) rfl rfl rfl (by decide) r8) ?_); (refine zNp ?_))
 (refine zGo ?_)
 (refine pl_op rfl (op_of (v_conv (c := (oct a 8 : Int)) hT rfl rfl rfl rfl (hw 8)) ?_); (refine zNp ?_))
 (refine zGo ?_)
 (refine pl_op rfl (op_fun (u8c (oct a 8) (oct_lt a 8)) rfl rfl e35 zLe rfl (fun r hr => ?_)); subst hr; refine ⟨rfl, ?_⟩; (refine zNp ?_))
 (refine zGo ?_)
 (refine pl_op rfl (op_of (v_concat rfl rfl rfl (by simp; omega)) ?_); (refine zNp ?_))
 (refine zGo ?_)
 (refine pl_op rfl (op_of (v_concat rfl rfl rfl (by simp; omega)) ?_); (refine zNp ?_))
 (refine zGo ?_)
 (refine pl_op rfl (op_of (v_rem (c := (oct a 0 : Int)) rfl rfl rfl (by decide) r0) ?_); (refine zNp ?_))
 (refine zGo ?_)
 (refine pl_op rfl (op_of (v_conv (c := (oct a 0 : Int)) hT rfl rfl rfl rfl (hw 0)) ?_); (refine zNp ?_))
 (refine zGo ?_)
 (refine pl_op rfl (op_fun (u8c (oct a 0) (oct_lt a 0)) rfl rfl e35 zLe rfl (fun r hr => ?_)); subst hr; refine ⟨rfl, ?_⟩; (refine zNp ?_))
 (refine zGo ?_)
 (refine pl_op rfl (op_of (v_concat rfl rfl rfl (by simp; omega)) ?_); (refine zNp ?_))
 (refine zGo ?_)
 refine ret1 _ rfl ?_ rfl
 rw [addrS]
def pfxS (p : TPfx) : Str := addrS p.addr.toNat ++ [47] ++ dec p.bits.toNat
theorem addrS_len (a : Nat) : (addrS a).length ≤ 19 := by
 have l0 : (dec (oct a 0)).length ≤ 4 := dec_small (by have := oct_lt a 0; omega)
 have l1 : (dec (oct a 8)).length ≤ 4 := dec_small (by have := oct_lt a 8; omega)
 have l2 : (dec (oct a 16)).length ≤ 4 := dec_small (by have := oct_lt a 16; omega)
 have l3 : (dec (oct a 24)).length ≤ 4 := dec_small (by have := oct_lt a 24; omega)
 simp only [addrS, List.length_append, List.length_singleton]
 omega
theorem c36 (p : TPfx) (hp : PfxIn p) (hv : rvalid p = true) (hb : 0 ≤ p.bits ∧ p.bits ≤ 32) : PFun Tryz.prog Gl 81 [ePfx p] fun r => r = .str (pfxS p) := by
 refine PFun.of hT Tryz.func81 rfl fun B hD => ?_
 refine pw_norm rfl ?_
 have ha : ((p.addr.toNat : Nat) : Int) = p.addr := Int.toNat_of_nonneg hp.1
 have h81 : PFun Tryz.prog Gl 34 [.int .u32 p.addr] fun r => r = .str (addrS p.addr.toNat) := by
  have := c81 (Gl := Gl) p.addr.toNat (by have := hp.2; omega)
  rw [ha] at this
  exact this
 have hl := addrS_len p.addr.toNat
 have hl2 : (dec p.bits.toNat).length ≤ 4 := dec_small (by omega)
 (refine zGo ?_)
 (refine pl_op rfl (op_fun (c53 p) rfl rfl e89 zLe rfl (fun r hr => ?_)); subst hr; refine ⟨rfl, ?_⟩; (refine zNp ?_))
 rw [hv]
 (refine zGo ?_)
 refine zDr [[0,1,4,5],[2],[3],[6],[7,8]] ?_
 (refine zDgo ?_)
 (refine po_step rfl rfl (op_fun (h81) rfl rfl e34 zLe rfl (fun r hr => ?_)); subst hr; refine ⟨rfl, zLok, ?_⟩; refine zDn ?_)
 (refine zDgo ?_)
 (refine po_val rfl rfl (v_concat rfl rfl rfl (by simp; omega)) ?_; refine zDn ?_)
 (refine zDgo ?_)
 (refine po_step rfl rfl (op_fun (c35s p.bits hb.1 (by omega)) rfl rfl e35 zLe rfl (fun r hr => ?_)); subst hr; refine ⟨rfl, zLok, ?_⟩; refine zDn ?_)
 (refine zDgo ?_)
 (refine po_val rfl rfl (v_concat rfl rfl rfl (by simp; omega)) ?_; refine zDn ?_)
 (refine zDgo ?_)
 (refine zGo ?_)
 exact ret1 _ rfl rfl rfl
def joinW : Nat → List Str → Str
 | _, [] => []
 | 0, w :: ws => w ++ joinW 1 ws
 | k + 1, w :: ws => [32] ++ w ++ joinW (k + 2) ws
def lineS (w : List Str) : Str := joinW 0 w ++ [10]
def textS (l : List TLine) : Str := (l.map fun x => lineS x.words).flatten

end
end Go.Proofs.YtkaobkjcjodffaaGreatDoor