/-
 The library functions that the topology's code calls, as contracts over pure values.
-/
import Derived.Shelf.Strings.SlTrimAscii
import Derived.Test.YtkaobkjcjodffaaGreatDoorHTab
import Derived.Test.YtkaobkjcjodffaaGreatDoorGPwFork
import Derived.Test.YtkaobkjcjodffaaGreatDoorGPwMap
import Derived.Test.YtkaobkjcjodffaaGreatDoorShelf
set_option maxHeartbeats 20000000
namespace Go.Proofs.YtkaobkjcjodffaaGreatDoor
open Go Go.Pw
section
open Go.RowKit
variable {Gl : Glob}
def GM (Gl : Glob) : Prop := ∀ w, GlobW Gl w → ∃ m : Int, w.cell? ⟨2, 0, none⟩ = some (.int .i64 m)
def bytes (s : Str) : ByteArray := ⟨s.toArray⟩
theorem bytes_size (s : Str) : (bytes s).size = s.length := by simp [bytes, ByteArray.size]
def splitAt (c : UInt8) (s : Str) : List Str := (Lib.splitB (bytes [c]) 0 (Lib.countB (bytes s) (bytes [c])) (bytes s)).map fun b => b.data.toList
theorem splitAt_len (c : UInt8) (s : Str) : (splitAt c s).length = s.count c + 1 := by
 rw [splitAt, List.length_map, Lib.splitB_all _ (by rw [bytes_size]; simp) 0 _ _ rfl]
 show Lib.count s [c] + 1 = _
 rw [Lib.count_one]
theorem c96 (hG : GM Gl) (s : Str) (c : UInt8) (hs : s.length < 4294967281) : PFun Tryz.prog Gl 92 [.str s, .str [c]] fun r => r = .sl ((splitAt c s).map .str) := by
 refine PFun.libRow (T := 9) rfl fun w hw => ?_
 obtain ⟨m, hm⟩ := hG w hw
 refine (Tryz.strings_Split (bytes s) (bytes [c]) m w (by rw [bytes_size]; exact hs) hm (by rw [bytes_size]; simp)).mono ?_
 rintro e w' ⟨rfl, rfl⟩
 have hl : (splitAt c s).length = Lib.countB (bytes s) (bytes [c]) + 1 := by
  rw [splitAt, List.length_map, Lib.splitB_all _ (by rw [bytes_size]; simp) 0 _ _ rfl]
 refine ⟨(splitAt c s).map .str, ?_, ?_, ?_, rfl, ?_⟩
 ·rw [List.length_map, hl]
 ·simp [isLit]
 ·have := List.count_le_length (a := c) (l := s)
  rw [List.length_map, splitAt_len]; unfold maxLen; omega
 ·congr 2
  apply Array.ext'
  simp only [splitAt, List.map_map]
  exact List.map_congr_left fun b _ => by cases b; rfl
theorem c128 (hG : GM Gl) (s sep : Str) (hs : s.length < 4294967281) : PFun Tryz.prog Gl 147 [.str s, .str sep] fun r => r = .tup [.str (Lib.cut s sep).1, .str (Lib.cut s sep).2.1, .bool (Lib.cut s sep).2.2] := by
 refine PFun.libT rfl fun w hw => ?_
 obtain ⟨m, hm⟩ := hG w hw
 refine (Tryz.strings_Cut (bytes s) (bytes sep) m w (by rw [bytes_size]; exact hs) hm).mono ?_
 rintro e w' ⟨rfl, n, rfl⟩
 exact ⟨_, rfl, rfl, rfl, ⟨rfl, rfl, rfl, Nat.le_refl _, fun _ _ => rfl⟩⟩
theorem c127 (s cut : Str) (hs : s.length < 4294967281) (hc : cut.length < 4294967281) (ha : ∀ b ∈ cut, b.toNat < 128) : PFun Tryz.prog Gl 144 [.str s, .str cut] fun r => r = .str (Lib.trimS s cut) := by
 refine PFun.lib rfl fun w hw => ?_
 refine (Any.strings_Trim_laid Tryz.lays160 (by kernel_rfl) (bytes s) (bytes cut) w (by rw [bytes_size]; omega) (by rw [bytes_size]; exact hc) (fun j b hb => ha b (List.mem_of_getElem? hb))).mono ?_
 rintro e w' ⟨rfl, hb⟩
 exact ⟨_, rfl, rfl, rfl, hb⟩
end
section
variable {Gl : Glob}
attribute [local irreducible] PW PWL OpP PCalls PWO
theorem head_some {s : Str} (h : ¬ s = []) : s[0]? = some (s.headD 0) := by cases s with | nil => exact (h rfl).elim | cons a l => rfl
def pbyte (c : UInt8) : Bool := !((c.toNat : Int) != 9 && (decide ((c.toNat : Int) < 32) || decide ((c.toNat : Int) > 126)))
theorem c97 (s : Str) (hl : Small s) : PFun Tryz.prog Gl 93 [.str s] fun r => r = .bool (s.all pbyte) := by
 refine PFun.of hT Tryz.func93 rfl fun B hD => ?_
 refine pw_norm rfl ?_
 unfold Small at hl
 (refine zGo ?_)
 refine pw_for hD (fun i : Nat => [(3, .int .i64 i)]) (fun _ => []) (fun i => i ≤ s.length ∧ ∀ (j : Nat) c, j < i → s[j]? = some c → pbyte c = true) (fun i => s.length - i) 0 ⟨by omega, by intro j c h; omega⟩ 0 rfl (fun _ => rfl) (StLe.refl _) (fun _ => rfl) (fun _ => rfl) (by (exact zLe)) ?_
 rintro i ⟨hi, hno⟩
 (refine zGo ?_)
 refine pw_cond rfl (fun h => ?_) (fun h => ?_)
 ·simp only [decide_eq_true_eq] at h
  have hlt : i < s.length := by omega
  (refine zGo ?_)
  (refine pl_op rfl (op_of (v_indexs (c := s[i]) hT rfl rfl rfl rfl (by omega) (by simp [hlt])) ?_); (refine zNp ?_))
  (refine zGo ?_)
  refine pl_and 11 14 25 (decide ((s[i].toNat : Int) < 32) || decide ((s[i].toNat : Int) > 126)) rfl rfl rfl (fun _ => ?_) (fun _ => ?_) ?_
  ·refine pl_norm rfl ?_
   (refine zGo ?_)
   (refine pl_on rfl rfl (op_of (v_indexs (c := s[i]) hT rfl rfl rfl rfl (by omega) (by simp [hlt])) ?_); (refine zNp ?_))
   (refine zGo ?_)
   refine pl_or 5 19 24 (decide ((s[i].toNat : Int) > 126)) rfl rfl rfl (fun _ => ?_) (fun _ => ?_) ?_
   ·refine pl_norm rfl ?_
    (refine zGo ?_)
    exact ⟨by (exact zLe), StLe.refl _⟩
   ·refine pl_norm rfl ?_
    (refine zGo ?_)
    (refine pl_on rfl rfl (op_of (v_indexs (c := s[i]) hT rfl rfl rfl rfl (by omega) (by simp [hlt])) ?_); (refine zNp ?_))
    (refine zGo ?_)
    exact ⟨by (exact zLe), StLe.refl _⟩
   refine pl_norm rfl ?_
   (refine zGo ?_)
   exact ⟨by (exact zLe), StLe.refl _⟩
  ·refine pl_norm rfl ?_
   (refine zGo ?_)
   exact ⟨by (exact zLe), StLe.refl _⟩
  refine pl_norm rfl ?_
  (refine zGo ?_)
  refine pw_cond rfl (fun h2 => ?_) (fun h2 => ?_)
  ·(refine zGo ?_)
   refine ret1 _ rfl ?_ rfl
   have : s.all pbyte = false := List.all_eq_false.2 ⟨s[i], List.getElem_mem hlt, by simp only [pbyte, h2]; simp⟩
   rw [this]
  ·(refine zGo ?_)
   refine ⟨i + 1, ⟨by omega, fun j d hj hd => ?_⟩, by omega, by (exact zLe), StLe.refl _⟩
   rcases Nat.lt_succ_iff_lt_or_eq.1 hj with hj | rfl
   ·exact hno j d hj hd
   ·rw [List.getElem?_eq_getElem hlt] at hd; cases hd
    simp only [pbyte, h2]; rfl
 ·simp only [decide_eq_false_iff_not] at h
  (refine zGo ?_)
  refine ret1 _ rfl ?_ rfl
  have : s.all pbyte = true := List.all_eq_true.2 fun c hc => by
   obtain ⟨j, hj⟩ := List.mem_iff_getElem?.1 hc
   exact hno j c (by have := (List.getElem?_eq_some_iff.1 hj).1; omega) hj
  rw [this]
def vhead (s : Str) : Bool := ((((s == []) || decide ((s.length : Int) > 24)) || (s == [97, 110, 121])) || decide (((s.headD 0).toNat : Int) < 97)) || decide (((s.headD 0).toNat : Int) > 122)
def vbyte (c : UInt8) : Bool := !((((!(decide ((c.toNat : Int) ≥ 97) && decide ((c.toNat : Int) ≤ 122)) && !(decide ((c.toNat : Int) ≥ 48) && decide ((c.toNat : Int) ≤ 57))) && ((c.toNat : Int) != 45)) && ((c.toNat : Int) != 95)))
def vname (s : Str) : Bool := !vhead s && s.all vbyte
theorem c85 (s : Str) : PFun Tryz.prog Gl 68 [.str s] fun r => r = .bool (vname s) := by
 refine PFun.of hT Tryz.func68 rfl fun B hD => ?_
 refine pw_norm rfl ?_
 (refine zGo ?_)
 (refine pl_or 4 8 12 (decide ((s.length : Int) > 24)) rfl rfl rfl (fun hb => ?_) (fun hb => ?_) ?_; (focus ((refine zNp ?_); (refine zGo ?_); exact ⟨by (exact zLe), StLe.refl _⟩)); (focus ((refine zNp ?_); (refine zGo ?_); exact ⟨by (exact zLe), StLe.refl _⟩)); (refine zNp ?_); (refine zGo ?_))
 (refine pl_or 3 13 16 (s == [97, 110, 121]) rfl rfl rfl (fun hb => ?_) (fun hb => ?_) ?_; (focus ((refine zNp ?_); (refine zGo ?_); exact ⟨by (exact zLe), StLe.refl _⟩)); (focus ((refine zNp ?_); (refine zGo ?_); exact ⟨by (exact zLe), StLe.refl _⟩)); (refine zNp ?_); (refine zGo ?_))
 (refine pl_or 4 17 21 (decide (((s.headD 0).toNat : Int) < 97)) rfl rfl rfl (fun hb => ?_) (fun hb => ?_) ?_; (focus ((refine zNp ?_); (refine zGo ?_); exact ⟨by (exact zLe), StLe.refl _⟩)); (focus ((refine zNp ?_); (refine zGo ?_); (refine pl_on rfl rfl (op_of (v_indexs (c := s.headD 0) hT rfl rfl rfl rfl (by omega) (head_some (by rintro rfl; simp at hb))) ?_); (refine zNp ?_)); (refine zGo ?_); exact ⟨by (exact zLe), StLe.refl _⟩)); (refine zNp ?_); (refine zGo ?_))
 (refine pl_or 4 22 26 (decide (((s.headD 0).toNat : Int) > 122)) rfl rfl rfl (fun hb => ?_) (fun hb => ?_) ?_; (focus ((refine zNp ?_); (refine zGo ?_); exact ⟨by (exact zLe), StLe.refl _⟩)); (focus ((refine zNp ?_); (refine zGo ?_); (refine pl_on rfl rfl (op_of (v_indexs (c := s.headD 0) hT rfl rfl rfl rfl (by omega) (head_some (by rintro rfl; simp at hb))) ?_); (refine zNp ?_)); (refine zGo ?_); exact ⟨by (exact zLe), StLe.refl _⟩)); (refine zNp ?_); (refine zGo ?_))
 refine pw_cond rfl (fun h => ?_) (fun h => ?_)
 ·(refine zGo ?_)
  refine ret1 _ rfl ?_ rfl
  have h' : vhead s = true := h
  simp [vname, h']
 have h' : vhead s = false := h
 have hl : s.length ≤ 24 := by
  have hh := h'
  simp only [vhead, Bool.or_eq_false_iff, decide_eq_false_iff_not] at hh
  omega
 (refine zGo ?_)
 refine pw_for hD (fun i : Nat => [(3, .int .i64 i)]) (fun _ => []) (fun i => i ≤ s.length ∧ ∀ (j : Nat) c, j < i → s[j]? = some c → vbyte c = true) (fun i => s.length - i) 0 ⟨by omega, by intro j c h; omega⟩ 0 rfl (fun _ => rfl) (StLe.refl _) (fun _ => rfl) (fun _ => rfl) (by (exact zLe)) ?_
 rintro i ⟨hi, hno⟩
 (refine zGo ?_)
 refine pw_cond rfl (fun h2 => ?_) (fun h2 => ?_)
 ·simp only [decide_eq_true_eq] at h2
  have hlt : i < s.length := by omega
  (refine zGo ?_)
  (refine pl_op rfl (op_of (v_indexs (c := s[i]) hT rfl rfl rfl rfl (by omega) (by simp [hlt])) ?_); (refine zNp ?_))
  (refine zGo ?_)
  (refine pl_and 5 37 42 (decide ((s[i].toNat : Int) ≤ 122)) rfl rfl rfl (fun hb => ?_) (fun hb => ?_) ?_; (focus ((refine zNp ?_); (refine zGo ?_); (refine pl_on rfl rfl (op_of (v_indexs (c := s[i]) hT rfl rfl rfl rfl (by omega) (by simp [hlt])) ?_); (refine zNp ?_)); (refine zGo ?_); exact ⟨by (exact zLe), StLe.refl _⟩)); (focus ((refine zNp ?_); (refine zGo ?_); exact ⟨by (exact zLe), StLe.refl _⟩)); (refine zNp ?_); (refine zGo ?_))
  (refine pl_op rfl (op_of (v_indexs (c := s[i]) hT rfl rfl rfl rfl (by omega) (by simp [hlt])) ?_); (refine zNp ?_))
  (refine zGo ?_)
  (refine pl_and 5 47 52 (decide ((s[i].toNat : Int) ≤ 57)) rfl rfl rfl (fun hb => ?_) (fun hb => ?_) ?_; (focus ((refine zNp ?_); (refine zGo ?_); (refine pl_on rfl rfl (op_of (v_indexs (c := s[i]) hT rfl rfl rfl rfl (by omega) (by simp [hlt])) ?_); (refine zNp ?_)); (refine zGo ?_); exact ⟨by (exact zLe), StLe.refl _⟩)); (focus ((refine zNp ?_); (refine zGo ?_); exact ⟨by (exact zLe), StLe.refl _⟩)); (refine zNp ?_); (refine zGo ?_))
  (refine pl_and 3 55 58 (!(decide ((s[i].toNat : Int) ≥ 48) && decide ((s[i].toNat : Int) ≤ 57))) rfl rfl rfl (fun hb => ?_) (fun hb => ?_) ?_; (focus ((refine zNp ?_); (refine zGo ?_); exact ⟨by (exact zLe), StLe.refl _⟩)); (focus ((refine zNp ?_); (refine zGo ?_); exact ⟨by (exact zLe), StLe.refl _⟩)); (refine zNp ?_); (refine zGo ?_))
  (refine pl_and 5 59 64 ((s[i].toNat : Int) != 45) rfl rfl rfl (fun hb => ?_) (fun hb => ?_) ?_; (focus ((refine zNp ?_); (refine zGo ?_); (refine pl_on rfl rfl (op_of (v_indexs (c := s[i]) hT rfl rfl rfl rfl (by omega) (by simp [hlt])) ?_); (refine zNp ?_)); (refine zGo ?_); exact ⟨by (exact zLe), StLe.refl _⟩)); (focus ((refine zNp ?_); (refine zGo ?_); exact ⟨by (exact zLe), StLe.refl _⟩)); (refine zNp ?_); (refine zGo ?_))
  (refine pl_and 5 65 70 ((s[i].toNat : Int) != 95) rfl rfl rfl (fun hb => ?_) (fun hb => ?_) ?_; (focus ((refine zNp ?_); (refine zGo ?_); (refine pl_on rfl rfl (op_of (v_indexs (c := s[i]) hT rfl rfl rfl rfl (by omega) (by simp [hlt])) ?_); (refine zNp ?_)); (refine zGo ?_); exact ⟨by (exact zLe), StLe.refl _⟩)); (focus ((refine zNp ?_); (refine zGo ?_); exact ⟨by (exact zLe), StLe.refl _⟩)); (refine zNp ?_); (refine zGo ?_))
  refine pw_cond rfl (fun h3 => ?_) (fun h3 => ?_)
  ·(refine zGo ?_)
   refine ret1 _ rfl ?_ rfl
   have : s.all vbyte = false := List.all_eq_false.2 ⟨s[i], List.getElem_mem hlt, by unfold vbyte; rw [h3]; simp⟩
   rw [vname, this, Bool.and_false]
  ·(refine zGo ?_)
   refine ⟨i + 1, ⟨by omega, fun j d hj hd => ?_⟩, by omega, by (exact zLe), StLe.refl _⟩
   rcases Nat.lt_succ_iff_lt_or_eq.1 hj with hj | rfl
   ·exact hno j d hj hd
   ·rw [List.getElem?_eq_getElem hlt] at hd; cases hd
    unfold vbyte; rw [h3]; rfl
 ·simp only [decide_eq_false_iff_not] at h2
  (refine zGo ?_)
  refine ret1 _ rfl ?_ rfl
  have : s.all vbyte = true := List.all_eq_true.2 fun c hc => by
   obtain ⟨j, hj⟩ := List.mem_iff_getElem?.1 hc
   exact hno j c (by have := (List.getElem?_eq_some_iff.1 hj).1; omega) hj
  rw [vname, this, h']; rfl
def nhead (s : Str) (most : Int) : Bool := (((s == []) || decide ((s.length : Int) > 19)) || (decide ((s.length : Int) > 1) && (((s.headD 0).toNat : Int) == 48))) || decide (most < 0)
def dbad (c : UInt8) : Bool := decide ((c.toNat : Int) < 48) || decide ((c.toNat : Int) > 57)
def dval (s : Str) : Nat := s.foldl (fun n c => 10 * n + (c.toNat - 48)) 0
theorem dval_snoc (s : Str) (c : UInt8) : dval (s ++ [c]) = 10 * dval s + (c.toNat - 48) := by simp [dval]
theorem dval_lt : ∀ (s : Str), (∀ c ∈ s, dbad c = false) → dval s < 10 ^ s.length := by
 intro s
 rw [← List.reverse_reverse s]
 generalize s.reverse = r
 induction r with
 | nil => intro _; decide
 | cons c r ih =>
  intro h
  rw [List.reverse_cons] at h ⊢
  rw [dval_snoc]
  have h1 := ih (fun d hd => h d (by simp [List.mem_reverse] at hd ⊢; exact .inl hd))
  have h2 := h c (by simp)
  simp only [dbad, Bool.or_eq_false_iff, decide_eq_false_iff_not] at h2
  have : (r.reverse ++ [c]).length = r.reverse.length + 1 := by simp
  rw [this, Nat.pow_succ]
  omega
def number (s : Str) (least most : Int) : Int × Bool :=
 if nhead s most then (0, false) else if s.any dbad then (0, false) else if (decide ((dval s : Int) > most) || decide ((dval s : Int) < least)) then (0, false) else ((dval s : Int), true)
theorem c103 (s : Str) (least most : Int) (hl : Small s) (hm : most ≤ 9223372036854775807) : PFun Tryz.prog Gl 101 [.str s, .int .i64 least, .int .i64 most] fun r => r = .tup [.int .i64 (number s least most).1, .bool (number s least most).2] := by
 refine PFun.of hT Tryz.func101 rfl fun B hD => ?_
 refine pw_norm rfl ?_
 unfold Small at hl
 (refine zGo ?_)
 (refine pl_or 4 12 16 (decide ((s.length : Int) > 19)) rfl rfl rfl (fun hb => ?_) (fun hb => ?_) ?_; (focus ((refine zNp ?_); (refine zGo ?_); exact ⟨by (exact zLe), StLe.refl _⟩)); (focus ((refine zNp ?_); (refine zGo ?_); exact ⟨by (exact zLe), StLe.refl _⟩)); (refine zNp ?_); (refine zGo ?_))
 refine pl_or 9 17 26 (decide ((s.length : Int) > 1) && (((s.headD 0).toNat : Int) == 48)) rfl rfl rfl (fun hb => ?_) (fun hb => ?_) ?_
 ·refine pl_norm rfl ?_
  (refine zGo ?_)
  exact ⟨by (exact zLe), StLe.refl _⟩
 ·refine pl_norm rfl ?_
  (refine zGo ?_)
  (refine pl_and 4 21 25 (((s.headD 0).toNat : Int) == 48) rfl rfl rfl (fun hb => ?_) (fun hb => ?_) ?_; (focus ((refine zNp ?_); (refine zGo ?_); (refine pl_on rfl rfl (op_of (v_indexs (c := s.headD 0) hT rfl rfl rfl rfl (by omega) (head_some (by rintro rfl; simp at hb))) ?_); (refine zNp ?_)); (refine zGo ?_); exact ⟨by (exact zLe), StLe.refl _⟩)); (focus ((refine zNp ?_); (refine zGo ?_); exact ⟨by (exact zLe), StLe.refl _⟩)); (refine zNp ?_); (refine zGo ?_))
  exact ⟨by (exact zLe), StLe.refl _⟩
 refine pl_norm rfl ?_
 (refine zGo ?_)
 (refine pl_or 3 27 30 (decide (most < 0)) rfl rfl rfl (fun hb => ?_) (fun hb => ?_) ?_; (focus ((refine zNp ?_); (refine zGo ?_); exact ⟨by (exact zLe), StLe.refl _⟩)); (focus ((refine zNp ?_); (refine zGo ?_); exact ⟨by (exact zLe), StLe.refl _⟩)); (refine zNp ?_); (refine zGo ?_))
 refine pw_cond rfl (fun h => ?_) (fun h => ?_)
 ·(refine zGo ?_)
  refine ret1 _ rfl ?_ rfl
  have h' : nhead s most = true := h
  simp [number, h']
 have h' : nhead s most = false := h
 have hh := h'
 simp only [nhead, Bool.or_eq_false_iff, decide_eq_false_iff_not] at hh
 (refine zGo ?_)
 refine pw_for hD (fun i : Nat => [(8, .int .u64 (dval (s.take i) : Int)), (9, .int .i64 i)]) (fun _ => []) (fun i => i ≤ s.length ∧ ∀ (j : Nat) c, j < i → s[j]? = some c → dbad c = false) (fun i => s.length - i) 0 ⟨by omega, by intro j c h; omega⟩ 0 rfl (fun _ => rfl) (StLe.refl _) (fun _ => rfl) (fun _ => rfl) (by (exact zLe)) ?_
 rintro i ⟨hi, hno⟩
 (refine zGo ?_)
 refine pw_cond rfl (fun h2 => ?_) (fun h2 => ?_)
 ·simp only [decide_eq_true_eq] at h2
  have hlt : i < s.length := by omega
  (refine zGo ?_)
  (refine pl_op rfl (op_of (v_indexs (c := s[i]) hT rfl rfl rfl rfl (by omega) (by simp [hlt])) ?_); (refine zNp ?_))
  (refine zGo ?_)
  (refine pl_or 5 41 46 (decide ((s[i].toNat : Int) > 57)) rfl rfl rfl (fun hb => ?_) (fun hb => ?_) ?_; (focus ((refine zNp ?_); (refine zGo ?_); exact ⟨by (exact zLe), StLe.refl _⟩)); (focus ((refine zNp ?_); (refine zGo ?_); (refine pl_on rfl rfl (op_of (v_indexs (c := s[i]) hT rfl rfl rfl rfl (by omega) (by simp [hlt])) ?_); (refine zNp ?_)); (refine zGo ?_); exact ⟨by (exact zLe), StLe.refl _⟩)); (refine zNp ?_); (refine zGo ?_))
  refine pw_cond rfl (fun h3 => ?_) (fun h3 => ?_)
  ·(refine zGo ?_)
   refine ret1 _ rfl ?_ rfl
   have : s.any dbad = true := List.any_eq_true.2 ⟨s[i], List.getElem_mem hlt, h3⟩
   simp [number, h', this]
  ·have h3' := h3
   simp only [Bool.or_eq_false_iff, decide_eq_false_iff_not] at h3'
   have hv : dval (s.take i) < 10 ^ 18 := by
    have := dval_lt (s.take i) (fun c hc => by
     obtain ⟨j, hj⟩ := List.mem_iff_getElem?.1 hc
     rw [List.getElem?_take] at hj
     split at hj
     ·exact hno j c (by assumption) hj
     ·cases hj)
    have h4 : (s.take i).length ≤ 18 := by simp; omega
    exact Nat.lt_of_lt_of_le this (Nat.pow_le_pow_right (by omega) h4)
   (refine zGo ?_)
   (refine pl_op rfl (op_of (v_arith rfl rfl rfl rfl (IntWalk.u64_in _ (by omega))) ?_); (refine zNp ?_))
   (refine zGo ?_)
   (refine pl_op rfl (op_of (v_indexs (c := s[i]) hT rfl rfl rfl rfl (by omega) (by simp [hlt])) ?_); (refine zNp ?_))
   (refine pl_op rfl (op_of (v_arith rfl rfl rfl rfl (IntWalk.u8_in _ (by omega))) ?_); (refine zNp ?_))
   (refine pl_op rfl (op_of (v_conv hT rfl rfl rfl rfl (IntWalk.u64_in _ (by omega))) ?_); (refine zNp ?_))
   (refine pl_op rfl (op_of (v_arith rfl rfl rfl rfl (IntWalk.u64_in _ (by omega))) ?_); (refine zNp ?_))
   (refine zGo ?_)
   have hs : (dval (s.take (i + 1)) : Int) = 10 * (dval (s.take i) : Int) + ((s[i].toNat : Int) - 48) := by
    rw [List.take_succ_eq_append_getElem hlt, dval_snoc]; omega
   refine ⟨i + 1, ⟨by omega, fun j d hj hd => ?_⟩, by omega, ?_, StLe.refl _⟩
   ·rcases Nat.lt_succ_iff_lt_or_eq.1 hj with hj | rfl
    ·exact hno j d hj hd
    ·rw [List.getElem?_eq_getElem hlt] at hd; cases hd; exact h3
   ·simp only [hs]
    (exact zLe)
 ·simp only [decide_eq_false_iff_not] at h2
  have hie : i = s.length := by omega
  subst hie
  have hany : s.any dbad = false := List.any_eq_false.2 fun c hc => by
   obtain ⟨j, hj⟩ := List.mem_iff_getElem?.1 hc
   simp [hno j c (by have := (List.getElem?_eq_some_iff.1 hj).1; omega) hj]
  have hv : dval s < 10 ^ 19 := by
   have := dval_lt s (fun c hc => by simpa using List.any_eq_false.1 hany c hc)
   exact Nat.lt_of_lt_of_le this (Nat.pow_le_pow_right (by omega) (by omega))
  rw [List.take_length]
  (refine zGo ?_)
  (refine pl_op rfl (op_of (v_conv hT rfl rfl rfl rfl (IntWalk.u64_in _ (by omega))) ?_); (refine zNp ?_))
  (refine zGo ?_)
  (refine pl_or 5 59 64 (decide ((dval s : Int) < least)) rfl rfl rfl (fun hb => ?_) (fun hb => ?_) ?_; (focus ((refine zNp ?_); (refine zGo ?_); exact ⟨by (exact zLe), StLe.refl _⟩)); (focus ((refine zNp ?_); (refine zGo ?_); have hb' := hb; simp only [decide_eq_false_iff_not] at hb'; (refine pl_on rfl rfl (op_of (v_conv (c := (dval s : Int)) hT rfl rfl rfl rfl (IntWalk.i64_in _ (by omega))) ?_); (refine zNp ?_)); (refine zGo ?_); exact ⟨by (exact zLe), StLe.refl _⟩)); (refine zNp ?_); (refine zGo ?_))
  refine pw_cond rfl (fun h3 => ?_) (fun h3 => ?_)
  ·(refine zGo ?_)
   refine ret1 _ rfl ?_ rfl
   simp only [number, h', hany, h3, if_true, if_false, Bool.false_eq_true]
   rfl
  ·have h3' := h3
   simp only [Bool.or_eq_false_iff, decide_eq_false_iff_not] at h3'
   (refine zGo ?_)
   (refine pl_op rfl (op_of (v_conv (c := (dval s : Int)) hT rfl rfl rfl rfl (IntWalk.i64_in _ (by omega))) ?_); (refine zNp ?_))
   (refine zGo ?_)
   refine ret1 _ rfl ?_ rfl
   simp only [number, h', hany, h3, if_false, Bool.false_eq_true]
   rfl
def digs : Str := [48, 49, 50, 51, 52, 53, 54, 55, 56, 57]
def digitsB (s : Str) : Bool := (!(s == []) && ((s == [48]) || (((s.headD 0).toNat : Int) != 48))) && (Lib.trimS s digs == [])
theorem c100 (s : Str) (hl : s.length < 4294967281) : PFun Tryz.prog Gl 102 [.str s] fun r => r = .bool (digitsB s) := by
 refine PFun.of hT Tryz.func102 rfl fun B hD => ?_
 refine pw_norm rfl ?_
 (refine zGo ?_)
 refine pl_and 8 5 13 ((s == [48]) || (((s.headD 0).toNat : Int) != 48)) rfl rfl rfl (fun h0 => ?_) (fun h0 => ?_) ?_
 ·refine pl_norm rfl ?_
  (refine zGo ?_)
  (refine pl_or 4 8 12 (((s.headD 0).toNat : Int) != 48) rfl rfl rfl (fun hb => ?_) (fun hb => ?_) ?_; (focus ((refine zNp ?_); (refine zGo ?_); exact ⟨by (exact zLe), StLe.refl _⟩)); (focus ((refine zNp ?_); (refine zGo ?_); have hne : ¬ s = [] := (by rintro rfl; simp at h0); (refine pl_on rfl rfl (op_of (v_indexs (c := s.headD 0) hT rfl rfl rfl rfl (by omega) (head_some (by assumption))) ?_); (refine zNp ?_)); (refine zGo ?_); exact ⟨by (exact zLe), StLe.refl _⟩)); (refine zNp ?_); (refine zGo ?_))
  exact ⟨by (exact zLe), StLe.refl _⟩
 ·refine pl_norm rfl ?_
  (refine zGo ?_)
  exact ⟨by (exact zLe), StLe.refl _⟩
 refine pl_norm rfl ?_
 (refine zGo ?_)
 (refine pl_and 4 14 18 (Lib.trimS s digs == []) rfl rfl rfl (fun hb => ?_) (fun hb => ?_) ?_; (focus ((refine zNp ?_); (refine zGo ?_); (refine pl_on rfl rfl (op_fun (c127 s digs hl (by decide) (by decide)) rfl rfl e144 zLe rfl (fun r hr => ?_)); subst hr; refine ⟨rfl, ?_⟩; (refine zNp ?_)); (refine zGo ?_); exact ⟨by (exact zLe), StLe.refl _⟩)); (focus ((refine zNp ?_); (refine zGo ?_); exact ⟨by (exact zLe), StLe.refl _⟩)); (refine zNp ?_); (refine zGo ?_))
 refine ret1 _ rfl ?_ rfl
 rfl
def formP (w p : Str) : Bool := (w == p) || (decide (((p.headD 0).toNat : Int) ≥ 65) && decide (((p.headD 0).toNat : Int) ≤ 90))
theorem c126 (w p : Str) (hp : ¬ p = []) : PFun Tryz.prog Gl 146 [.str w, .str p] fun r => r = .bool (formP w p) := by
 refine PFun.of hT Tryz.func146 rfl fun B hD => ?_
 refine pw_norm rfl ?_
 (refine zGo ?_)
 refine pl_or 9 8 17 (decide (((p.headD 0).toNat : Int) ≥ 65) && decide (((p.headD 0).toNat : Int) ≤ 90)) rfl rfl rfl (fun hb => ?_) (fun hb => ?_) ?_
 ·refine pl_norm rfl ?_
  (refine zGo ?_)
  exact ⟨by (exact zLe), StLe.refl _⟩
 ·refine pl_norm rfl ?_
  (refine zGo ?_)
  (refine pl_on rfl rfl (op_of (v_indexs (c := p.headD 0) hT rfl rfl rfl rfl (by omega) (head_some hp)) ?_); (refine zNp ?_))
  (refine zGo ?_)
  (refine pl_and 4 12 16 (decide (((p.headD 0).toNat : Int) ≤ 90)) rfl rfl rfl (fun hb => ?_) (fun hb => ?_) ?_; (focus ((refine zNp ?_); (refine zGo ?_); (refine pl_on rfl rfl (op_of (v_indexs (c := p.headD 0) hT rfl rfl rfl rfl (by omega) (head_some hp)) ?_); (refine zNp ?_)); (refine zGo ?_); exact ⟨by (exact zLe), StLe.refl _⟩)); (focus ((refine zNp ?_); (refine zGo ?_); exact ⟨by (exact zLe), StLe.refl _⟩)); (refine zNp ?_); (refine zGo ?_))
  exact ⟨by (exact zLe), StLe.refl _⟩
 refine pl_norm rfl ?_
 (refine zGo ?_)
 refine ret1 _ rfl ?_ rfl
 rfl
def eqf (p : Str → Str → Bool) (l m : List Str) : Bool := decide (l.length = m.length) && (l.zip m).all fun x => p x.1 x.2
theorem c125 {f : FuncId} (hf : Enters Tryz.prog f) {p : Str → Str → Bool} (l m : List Str) (hl : Small l) (hp : ∀ a b, b ∈ m → PFun Tryz.prog Gl f [.str a, .str b] fun r => r = .bool (p a b)) :
  PFun Tryz.prog Gl 145 [.sl (l.map .str), .sl (m.map .str), .fn f []] fun r => r = .bool (eqf p l m) := by
 refine PFun.of hT Tryz.func145 rfl fun B hD => ?_
 refine pw_norm rfl ?_
 unfold Small at hl
 (refine zGo ?_)
 refine pw_cond rfl (fun h => ?_) (fun h => ?_)
 ·(refine zGo ?_)
  refine ret1 _ rfl ?_ rfl
  have : ¬ l.length = m.length := by intro e; simp [e] at h
  simp [eqf, this]
 ·have hlm : l.length = m.length := by have h' := h; simp [List.length_map] at h'; omega
  (refine zGo ?_)
  refine pw_for hD (fun i : Nat => [(17, .int .i64 i)]) (fun _ => []) (fun i => i ≤ l.length ∧ ∀ (j : Nat) a b, j < i → l[j]? = some a → m[j]? = some b → p a b = true) (fun i => l.length - i) 0 ⟨by omega, by intro j a b h; omega⟩ 0 rfl (fun _ => rfl) (StLe.refl _) (fun _ => rfl) (fun _ => rfl) (by (exact zLe)) ?_
  rintro i ⟨hi, hno⟩
  (refine zGo ?_)
  refine pw_cond rfl (fun h2 => ?_) (fun h2 => ?_)
  ·simp only [decide_eq_true_eq, List.length_map] at h2
   have hlt : i < l.length := by omega
   have hlt2 : i < m.length := by omega
   (refine zGo ?_)
   (refine pl_op rfl (op_of (v_index (p := .str l[i]) hT rfl rfl rfl rfl (by omega) (by simp [hlt]) rfl) ?_); (refine zNp ?_))
   (refine zGo ?_)
   (refine pl_op rfl (op_of (v_index (p := .str m[i]) hT rfl rfl rfl rfl (by omega) (by simp [hlt2]) rfl) ?_); (refine zNp ?_))
   (refine zGo ?_)
   refine pl_op rfl (op_fun (hp l[i] m[i] (List.getElem_mem hlt2)) rfl rfl hf (by (exact zLe)) rfl (fun r hr => ?_))
   subst hr
   refine ⟨rfl, ?_⟩
   refine pl_norm rfl ?_
   (refine zGo ?_)
   refine pw_cond rfl (fun h3 => ?_) (fun h3 => ?_)
   ·(refine zGo ?_)
    refine ret1 _ rfl ?_ rfl
    have h3' : p l[i] m[i] = false := by simpa using h3
    have : ((l.zip m).all fun x => p x.1 x.2) = false := List.all_eq_false.2 ⟨(l[i], m[i]), by
     have : (l.zip m)[i]'(by simp; omega) = (l[i], m[i]) := by simp
     rw [← this]; exact List.getElem_mem _, by simp [h3']⟩
    simp [eqf, this]
   ·(refine zGo ?_)
    refine ⟨i + 1, ⟨by omega, fun j a b hj ha hb => ?_⟩, by omega, by (exact zLe), StLe.refl _⟩
    rcases Nat.lt_succ_iff_lt_or_eq.1 hj with hj | rfl
    ·exact hno j a b hj ha hb
    ·rw [List.getElem?_eq_getElem hlt] at ha; cases ha
     rw [List.getElem?_eq_getElem hlt2] at hb; cases hb
     simpa using h3
  ·simp only [decide_eq_false_iff_not, List.length_map] at h2
   (refine zGo ?_)
   refine ret1 _ rfl ?_ rfl
   have : ((l.zip m).all fun x => p x.1 x.2) = true := List.all_eq_true.2 fun x hx => by
    obtain ⟨j, hj⟩ := List.mem_iff_getElem?.1 hx
    rw [List.getElem?_zip_eq_some] at hj
    exact hno j x.1 x.2 (by have := (List.getElem?_eq_some_iff.1 hj.1).1; omega) hj.1 hj.2
   simp [eqf, hlm, this]
def formB (w p : List Str) : Bool := eqf formP w p
theorem c99 (w p : List Str) (hl : Small w) (hp : ∀ b ∈ p, ¬ b = []) : PFun Tryz.prog Gl 103 [.sl (w.map .str), .sl (p.map .str)] fun r => r = .bool (formB w p) := by
 refine PFun.of hT Tryz.func103 rfl fun B hD => ?_
 refine pw_norm rfl ?_
 (refine zGo ?_)
 (refine pl_op rfl (op_fun (c125 e146 w p hl fun a b hb => c126 a b (hp b hb)) rfl rfl e145 zLe rfl (fun r hr => ?_)); subst hr; refine ⟨rfl, ?_⟩; (refine zNp ?_))
 (refine zGo ?_)
 refine ret1 _ rfl rfl rfl
def sub (s : Str) (a b : Nat) : Str := (s.take b).drop a
def endW (s : Str) (out : List Str) (st : Option Nat) (at_ : Nat) : List Str := match st with | some k => out ++ [sub s k at_] | none => out
def stI (st : Option Nat) : Int := match st with | some k => (k : Int) | none => -1
theorem c124 (s : Str) (_hl : Small s) (out : List Str) (cap : Nat) (st : Option Nat) (n : Nat) (hst : ∀ k, st = some k → k ≤ n) (hn : n ≤ s.length) (ho : out.length ≤ 2 ^ 41) :
  PCalls Tryz.prog Gl 137 [.int .i64 n, .ptr 0 0, .ptr 1 0, .ptr 2 0] [.box [.int .i64 (stI st)], .box [.msl 1 3 0 (out.map PV.str).length cap], .box [.str s], .arr 1 (out.map .str) cap] fun r σ =>
   r = .tup [] ∧ ∃ cap', σ = [.box [.int .i64 (-1)], .box [.msl 1 3 0 ((endW s out st n).map PV.str).length cap'], .box [.str s], .arr 1 ((endW s out st n).map .str) cap'] := by
 refine PCalls.of hT Tryz.func137 rfl 4 (Nat.le_refl _) fun B hD => ?_
 refine pw_norm rfl ?_
 unfold Small at _hl
 (refine zGo ?_)
 refine pw_cond rfl (fun h => ?_) (fun h => ?_)
 ·obtain ⟨k, rfl⟩ : ∃ k, st = some k := by cases st with | none => simp [stI] at h | some k => exact ⟨k, rfl⟩
  have hk := hst k rfl
  (refine zGo ?_)
  refine zDr [[0,1,2,3,4,5],[6,7]] ?_
  (refine zDgo ?_)
  (refine po_val rfl rfl (v_substr hT rfl rfl rfl rfl rfl (by simp [stI]) (by simp [stI]; omega) (by omega)) ?_; refine zDn ?_)
  (refine zDgo ?_)
  (refine po_make rfl rfl (fun st' K hK => op_litF hT rfl rfl rfl rfl rfl (by decide) rfl rfl rfl rfl hK) ?_; refine zDn ?_)
  (refine po_step rfl rfl (op_append (b := 16) hT rfl rfl rfl rfl rfl rfl (.inl (Nat.zero_lt_succ _)) rfl rfl (by simp; omega) (fun cap' _ hcap => ⟨zLok, ?_⟩)); refine zDn ?_)
  (refine zDgo ?_)
  (refine pw_mv 3 4 hD rfl rfl rfl rfl rfl ?_; refine pw_norm rfl ?_)
  (refine pw_trim 4 hD rfl rfl ?_; refine pw_norm rfl ?_)
  (refine zGo ?_)
  have e : (out.map PV.str) ++ [PV.str (sub s k n)] = (endW s out (some k) n).map PV.str := by simp [endW]
  refine ⟨_, _, [.box [.int .i64 (-1)], .box [.msl 1 3 0 ((endW s out (some k) n).map PV.str).length cap'], .box [.str s], .arr 1 ((endW s out (some k) n).map .str) cap'], rfl, ⟨rfl, cap', rfl⟩, .inr (.inl rfl), ?_, rfl, rfl⟩
  simp only [← e, List.length_append]
  exact ⟨.inr (.inl rfl), .inr (.inl rfl), .inr (.inl rfl), .inr (.inl rfl), trivial⟩
 ·have hst0 : st = none := by cases st with | none => rfl | some k => simp [stI] at h
  subst hst0
  (refine zGo ?_)
  exact ⟨_, _, _, rfl, ⟨rfl, cap, rfl⟩, .inr (.inl rfl), ⟨.inr (.inl rfl), .inr (.inl rfl), .inr (.inl rfl), .inr (.inl rfl), trivial⟩, rfl, rfl⟩
theorem endW_len (s : Str) (out : List Str) (st : Option Nat) (n : Nat) : (endW s out st n).length ≤ out.length + 1 := by cases st <;> simp [endW]
def wrun (s : Str) : Nat → Nat → List Str → Option Nat → List Str
 | 0, i, out, st => endW s out st i
 | n + 1, i, out, st => match s[i]? with
  | none => endW s out st i
  | some c => if c = 35 then endW s out st i else if (c = 32 ∨ c = 9) then wrun s n (i + 1) (endW s out st i) none else if (c = 44 ∨ c = 61) then wrun s n (i + 1) (endW s out st i ++ [sub s i (i + 1)]) none else wrun s n (i + 1) out (some (st.getD i))
def words (s : Str) : List Str := wrun s s.length 0 [] none
theorem c98 (s : Str) (hl : Small s) : PFun Tryz.prog Gl 94 [.str s] fun r => r = .sl ((words s).map .str) := by
 refine PFun.of hT Tryz.func94 rfl fun B hD => ?_
 refine pw_norm rfl ?_
 unfold Small at hl
 (refine zGo ?_)
 refine pw_scope ?_ (fun l env st h => h)
 (refine zGo ?_)
 refine pw_label ?_
 (refine zGo ?_)
 refine pw_ghost 1 ?_
 refine pw_norm rfl ?_
 refine pw_for hD (fun a : Nat × List Str × Option Nat × Nat => [(6, .int .i64 a.1)]) (fun a => [.box [.str s], .box [.msl 1 3 0 (a.2.1.map PV.str).length a.2.2.2], .box [.int .i64 (stI a.2.2.1)], .arr 1 (a.2.1.map .str) a.2.2.2])
  (fun a => wrun s (s.length - a.1) a.1 a.2.1 a.2.2.1 = words s ∧ a.1 ≤ s.length ∧ (∀ k, a.2.2.1 = some k → k < a.1) ∧ a.2.1.length ≤ 2 * a.1) (fun a => s.length - a.1) (0, [], none, 0) ⟨rfl, Nat.zero_le _, by intro k h; (cases h), Nat.le_refl _⟩ 4 rfl (fun _ => rfl)
  ⟨.inl rfl, .inr (.inr ⟨_, _, rfl, rfl, .inr (.inr (.inr (.inl ⟨rfl, _, _, rfl⟩))), trivial⟩), .inl rfl, .inl rfl, trivial⟩ (fun _ => rfl) (fun _ => rfl) (by (exact zLe)) ?_
 rintro ⟨i, out, st, cap⟩ ⟨hw, hi, hst, ho⟩
 (refine zGo ?_)
 refine pw_cond rfl (fun h => ?_) (fun h => ?_)
 ·simp only [decide_eq_true_eq] at h
  have hlt : i < s.length := by omega
  (refine zGo ?_)
  (refine pl_op rfl (op_of (v_indexs (c := s[i]) hT rfl rfl rfl rfl (by omega) (by simp [hlt])) ?_); (refine zNp ?_))
  (refine zGo ?_)
  have hgi : s[i]? = some s[i] := List.getElem?_eq_getElem hlt
  have hst' : ∀ k, st = some k → k ≤ i := fun k hk => by have := hst k hk; omega
  have hoB : out.length ≤ 2 ^ 41 := by have : out.length ≤ 2 * i := ho; omega
  have hw' := hw
  rw [show s.length - i = (s.length - (i + 1)) + 1 by omega] at hw'
  simp only [wrun, hgi] at hw'
  refine pw_cond rfl (fun h1 => ?_) (fun h1 => ?_)
  ·have hc : s[i] = 35 := by simp at h1; exact UInt8.toNat_inj.1 (show s[i].toNat = 35 by omega)
   rw [if_pos hc] at hw'
   (refine zGo ?_)
   (refine pl_op rfl (op_callA [2, 1, 0, 3] rfl rfl e137 (by decide) rfl rfl rfl zLe zLes (c124 s hl out cap st i hst' (by omega) hoB) (fun r s hq => ?_)); obtain ⟨rfl, cap', rfl⟩ := hq; refine ⟨rfl, rfl, ?_⟩; (refine zNp ?_))
   refine pl_nil ?_
   (refine pw_mv 3 7 hD rfl rfl rfl rfl rfl ?_; refine pw_norm rfl ?_)
   (refine pw_trim 4 hD rfl rfl ?_; refine pw_norm rfl ?_)
   (refine zGo ?_)
   rw [← hw']
   exact ret0 _ _ rfl rfl (.inr (.inr (.inr (.inl ⟨_, _, _, _, _, _, rfl, rfl, rfl, rfl, rfl⟩)))) rfl
  ·have hc : ¬ s[i] = 35 := by rintro hc; simp [hc] at h1
   rw [if_neg hc] at hw'
   (refine zGo ?_)
   refine pw_cond rfl (fun h2 => ?_) (fun h2 => ?_)
   ·have hc2 : s[i] = 32 := by simp at h2; exact UInt8.toNat_inj.1 (show s[i].toNat = 32 by omega)
    rw [if_pos (.inl hc2)] at hw'
    (refine zGo ?_)
    refine pw_condB rfl true h2 ?_
    (refine zGo ?_)
    (refine pl_op rfl (op_callA [2, 1, 0, 3] rfl rfl e137 (by decide) rfl rfl rfl zLe zLes (c124 s hl out cap st i hst' (by omega) hoB) (fun r s hq => ?_)); obtain ⟨rfl, cap', rfl⟩ := hq; refine ⟨rfl, rfl, ?_⟩; (refine zNp ?_))
    refine pl_nil ?_
    (refine pw_mv 3 7 hD rfl rfl rfl rfl rfl ?_; refine pw_norm rfl ?_)
    (refine pw_trim 4 hD rfl rfl ?_; refine pw_norm rfl ?_)
    (refine zGo ?_)
    refine ⟨(i + 1, endW s out st i, none, cap'), ⟨hw', by show i + 1 ≤ _; omega, by intro k hk; (cases hk), by have := endW_len s out st i; have : out.length ≤ 2 * i := ho; show (endW s out st i).length ≤ 2 * (i + 1); omega⟩, by show _ - (i + 1) < _ - i; omega, by (exact zLe), by (exact zLes)⟩
   ·have hc2 : ¬ s[i] = 32 := by rintro hc; simp [hc] at h2
    (refine zGo ?_)
    refine pw_cond rfl (fun h3 => ?_) (fun h3 => ?_)
    ·have hc3 : s[i] = 9 := by simp at h3; exact UInt8.toNat_inj.1 (show s[i].toNat = 9 by omega)
     rw [if_pos (.inr hc3)] at hw'
     (refine zGo ?_)
     (refine pl_op rfl (op_callA [2, 1, 0, 3] rfl rfl e137 (by decide) rfl rfl rfl zLe zLes (c124 s hl out cap st i hst' (by omega) hoB) (fun r s hq => ?_)); obtain ⟨rfl, cap', rfl⟩ := hq; refine ⟨rfl, rfl, ?_⟩; (refine zNp ?_))
     refine pl_nil ?_
     (refine pw_mv 3 7 hD rfl rfl rfl rfl rfl ?_; refine pw_norm rfl ?_)
     (refine pw_trim 4 hD rfl rfl ?_; refine pw_norm rfl ?_)
     (refine zGo ?_)
     refine ⟨(i + 1, endW s out st i, none, cap'), ⟨hw', by show i + 1 ≤ _; omega, by intro k hk; (cases hk), by have := endW_len s out st i; have : out.length ≤ 2 * i := ho; show (endW s out st i).length ≤ 2 * (i + 1); omega⟩, by show _ - (i + 1) < _ - i; omega, by (exact zLe), by (exact zLes)⟩
    ·have hc3 : ¬ s[i] = 9 := by rintro hc; simp [hc] at h3
     rw [if_neg (by rintro (h | h); exact hc2 h; exact hc3 h)] at hw'
     (refine zGo ?_)
     refine pw_cond rfl (fun h4 => ?_) (fun h4 => ?_)
     ·have hc4 : s[i] = 44 := by simp at h4; exact UInt8.toNat_inj.1 (show s[i].toNat = 44 by omega)
      rw [if_pos (.inl hc4)] at hw'
      (refine zGo ?_)
      refine pw_condB rfl true h4 ?_
      (refine zGo ?_)
      (refine pl_op rfl (op_callA [2, 1, 0, 3] rfl rfl e137 (by decide) rfl rfl rfl zLe zLes (c124 s hl out cap st i hst' (by omega) hoB) (fun r s hq => ?_)); obtain ⟨rfl, cap', rfl⟩ := hq; refine ⟨rfl, rfl, ?_⟩; (refine zNp ?_))
      refine pl_nil ?_
      (refine pw_mv 3 7 hD rfl rfl rfl rfl rfl ?_; refine pw_norm rfl ?_)
      (refine pw_trim 4 hD rfl rfl ?_; refine pw_norm rfl ?_)
      (refine zGo ?_)
      have hel := endW_len s out st i
      have ho2 : out.length ≤ 2 * i := ho
      refine zDr [[0,1,2,3,4,5,6],[7,8]] ?_
      (refine zDgo ?_)
      (refine po_val rfl rfl (v_substr hT rfl rfl rfl rfl rfl (by omega) (by omega) (by omega)) ?_; refine zDn ?_)
      (refine zDgo ?_)
      (refine po_make rfl rfl (fun st' K hK => op_litF hT rfl rfl rfl rfl rfl (by decide) rfl rfl rfl rfl hK) ?_; refine zDn ?_)
      (refine po_step rfl rfl (op_append (b := 16) hT rfl rfl rfl rfl rfl rfl (.inl (Nat.zero_lt_succ _)) rfl rfl (by simp; omega) (fun cap2 _ hcap => ⟨zLok, ?_⟩)); refine zDn ?_)
      (refine zDgo ?_)
      (refine pw_mv 3 4 hD rfl rfl rfl rfl rfl ?_; refine pw_norm rfl ?_)
      (refine pw_trim 4 hD rfl rfl ?_; refine pw_norm rfl ?_)
      (refine zGo ?_)
      refine ⟨(i + 1, endW s out st i ++ [sub s i (i + 1)], none, cap2), ⟨hw', by show i + 1 ≤ _; omega, by intro k hk; (cases hk), by show (endW s out st i ++ [sub s i (i + 1)]).length ≤ 2 * (i + 1); simp; omega⟩, by show _ - (i + 1) < _ - i; omega, ?_, ?_⟩
      ·simp only []
       (exact zLe)
      ·simp only [List.map_append, List.length_append]
       (exact zLes)
     ·have hc4 : ¬ s[i] = 44 := by rintro hc; simp [hc] at h4
      (refine zGo ?_)
      refine pw_cond rfl (fun h5 => ?_) (fun h5 => ?_)
      ·have hc5 : s[i] = 61 := by simp at h5; exact UInt8.toNat_inj.1 (show s[i].toNat = 61 by omega)
       rw [if_pos (.inr hc5)] at hw'
       (refine zGo ?_)
       (refine pl_op rfl (op_callA [2, 1, 0, 3] rfl rfl e137 (by decide) rfl rfl rfl zLe zLes (c124 s hl out cap st i hst' (by omega) hoB) (fun r s hq => ?_)); obtain ⟨rfl, cap', rfl⟩ := hq; refine ⟨rfl, rfl, ?_⟩; (refine zNp ?_))
       refine pl_nil ?_
       (refine pw_mv 3 7 hD rfl rfl rfl rfl rfl ?_; refine pw_norm rfl ?_)
       (refine pw_trim 4 hD rfl rfl ?_; refine pw_norm rfl ?_)
       (refine zGo ?_)
       have hel := endW_len s out st i
       have ho2 : out.length ≤ 2 * i := ho
       refine zDr [[0,1,2,3,4,5,6],[7,8]] ?_
       (refine zDgo ?_)
       (refine po_val rfl rfl (v_substr hT rfl rfl rfl rfl rfl (by omega) (by omega) (by omega)) ?_; refine zDn ?_)
       (refine zDgo ?_)
       (refine po_make rfl rfl (fun st' K hK => op_litF hT rfl rfl rfl rfl rfl (by decide) rfl rfl rfl rfl hK) ?_; refine zDn ?_)
       (refine po_step rfl rfl (op_append (b := 16) hT rfl rfl rfl rfl rfl rfl (.inl (Nat.zero_lt_succ _)) rfl rfl (by simp; omega) (fun cap2 _ hcap => ⟨zLok, ?_⟩)); refine zDn ?_)
       (refine zDgo ?_)
       (refine pw_mv 3 4 hD rfl rfl rfl rfl rfl ?_; refine pw_norm rfl ?_)
       (refine pw_trim 4 hD rfl rfl ?_; refine pw_norm rfl ?_)
       (refine zGo ?_)
       refine ⟨(i + 1, endW s out st i ++ [sub s i (i + 1)], none, cap2), ⟨hw', by show i + 1 ≤ _; omega, by intro k hk; (cases hk), by show (endW s out st i ++ [sub s i (i + 1)]).length ≤ 2 * (i + 1); simp; omega⟩, by show _ - (i + 1) < _ - i; omega, ?_, ?_⟩
       ·simp only []
        (exact zLe)
       ·simp only [List.map_append, List.length_append]
        (exact zLes)
      ·have hc5 : ¬ s[i] = 61 := by rintro hc; simp [hc] at h5
       rw [if_neg (by rintro (h | h); exact hc4 h; exact hc5 h)] at hw'
       (refine zGo ?_)
       refine pw_cond rfl (fun h6 => ?_) (fun h6 => ?_)
       ·obtain rfl : st = none := by cases st with | none => rfl | some k => exact absurd (of_decide_eq_true h6 : (k : Int) < 0) (by omega)
        (refine zGo ?_)
        exact ⟨(i + 1, out, some i, cap), ⟨hw', by show i + 1 ≤ _; omega, by intro k hk; cases hk; exact Nat.lt_succ_self i, by have : out.length ≤ 2 * i := ho; show out.length ≤ 2 * (i + 1); omega⟩, by show _ - (i + 1) < _ - i; omega, by (exact zLe), by (exact zLes)⟩
       ·obtain ⟨k, rfl⟩ : ∃ k, st = some k := by cases st with | none => simp [stI] at h6 | some k => exact ⟨k, rfl⟩
        have hk : k < i := hst k rfl
        have ho3 : out.length ≤ 2 * i := ho
        (refine zGo ?_)
        exact ⟨(i + 1, out, some k, cap), ⟨hw', by show i + 1 ≤ _; omega, by intro k' hk'; cases hk'; exact Nat.lt_succ_of_lt hk, by show out.length ≤ 2 * (i + 1); clear ho; omega⟩, by show _ - (i + 1) < _ - i; omega, by (exact zLe), by (exact zLes)⟩
 ·simp only [decide_eq_false_iff_not] at h
  have hie : i = s.length := by have : i ≤ s.length := hi; omega
  subst hie
  have hst' : ∀ k, st = some k → k ≤ s.length := fun k hk => by have : k < s.length := hst k hk; omega
  have hoB : out.length ≤ 2 ^ 41 := by have : out.length ≤ 2 * s.length := ho; omega
  have hw' : endW s out st s.length = words s := by
   have := hw
   simp only [Nat.sub_self, wrun] at this
   exact this
  (refine zGo ?_)
  (refine pl_op rfl (op_callA [2, 1, 0, 3] rfl rfl e137 (by decide) rfl rfl rfl zLe zLes (c124 s hl out cap st s.length hst' (by omega) hoB) (fun r s hq => ?_)); obtain ⟨rfl, cap', rfl⟩ := hq; refine ⟨rfl, rfl, ?_⟩; (refine zNp ?_))
  refine pl_nil ?_
  (refine pw_mv 3 7 hD rfl rfl rfl rfl rfl ?_; refine pw_norm rfl ?_)
  (refine pw_trim 4 hD rfl rfl ?_; refine pw_norm rfl ?_)
  (refine zGo ?_)
  rw [← hw']
  exact ret0 _ _ rfl rfl (.inr (.inr (.inr (.inl ⟨_, _, _, _, _, _, rfl, rfl, rfl, rfl, rfl⟩)))) rfl

end
end Go.Proofs.YtkaobkjcjodffaaGreatDoor