/-
  The library functions that the topology's code calls, as contracts over pure values.
-/
import Derived.Test.YtdehdgbdcfkpbaaGreatDoorKEnts
import Derived.Test.YtdehdgbdcfkpbaaGreatDoorJPwLoop
import Derived.Test.YtdehdgbdcfkpbaaGreatDoorShelf
import Derived.Shelf.Strings.SlTrimAscii
namespace Go.Proofs.YtdehdgbdcfkpbaaGreatDoor
open Go Go.Pw Go.RowKit
variable {Gl : Glob}
/-- The package-level number that strings.Index looks at reads as some number. -/
def GM (Gl : Glob) : Prop := ∀ w, GlobW Gl w → ∃ m : Int, w.cell? ⟨1, 0, none⟩ = some (.int .i64 m)
def bytes (s : Str) : ByteArray := ⟨s.toArray⟩
theorem bytes_data (s : Str) : (bytes s).data.toList = s := rfl
theorem bytes_size (s : Str) : (bytes s).size = s.length := by simp [bytes, ByteArray.size]
/-- strings.Split at a one-byte separator. -/
def splitAt (c : UInt8) (s : Str) : List Str := (Lib.splitB (bytes [c]) 0 (Lib.countB (bytes s) (bytes [c])) (bytes s)).map fun b => b.data.toList
theorem splitAt_len (c : UInt8) (s : Str) : (splitAt c s).length = s.count c + 1 := by
  rw [splitAt, List.length_map, Lib.splitB_all _ (by rw [bytes_size]; simp) 0 _ _ rfl]
  show Lib.count s [c] + 1 = _
  rw [Lib.count_one]
theorem c96 (hG : GM Gl) (s : Str) (c : UInt8) (hs : s.length < 4294967281) : PFun Tryz.prog Gl 96 [.str s, .str [c]] fun r => r = .sl ((splitAt c s).map .str) := by
  refine PFun.libRow (T := 9) rfl fun w hw => ?_
  obtain ⟨m, hm⟩ := hG w hw
  refine (Tryz.strings_Split (bytes s) (bytes [c]) m w (by rw [bytes_size]; exact hs) hm (by rw [bytes_size]; simp)).mono ?_
  rintro e w' ⟨rfl, rfl⟩
  have hl : (splitAt c s).length = Lib.countB (bytes s) (bytes [c]) + 1 := by
    rw [splitAt, List.length_map, Lib.splitB_all _ (by rw [bytes_size]; simp) 0 _ _ rfl]
  refine ⟨(splitAt c s).map .str, ?_, ?_, ?_, rfl, ?_⟩
  · rw [List.length_map, hl]
  · simp [isLit]
  · have := List.count_le_length (a := c) (l := s)
    rw [List.length_map, splitAt_len]; unfold maxLen; omega
  · congr 2
    apply Array.ext'
    simp only [splitAt, List.map_map]
    exact List.map_congr_left fun b _ => by cases b; rfl
theorem c128 (hG : GM Gl) (s sep : Str) (hs : s.length < 4294967281) : PFun Tryz.prog Gl 128 [.str s, .str sep] fun r => r = .tup [.str (Lib.cut s sep).1, .str (Lib.cut s sep).2.1, .bool (Lib.cut s sep).2.2] := by
  refine PFun.libT rfl fun w hw => ?_
  obtain ⟨m, hm⟩ := hG w hw
  refine (Tryz.strings_Cut (bytes s) (bytes sep) m w (by rw [bytes_size]; exact hs) hm).mono ?_
  rintro e w' ⟨rfl, n, rfl⟩
  exact ⟨_, rfl, rfl, rfl, ⟨rfl, rfl, rfl, Nat.le_refl _, fun _ _ => rfl⟩⟩
theorem c127 (s cut : Str) (hs : s.length < 4294967281) (hc : cut.length < 4294967281) (ha : ∀ b ∈ cut, b.toNat < 128) : PFun Tryz.prog Gl 127 [.str s, .str cut] fun r => r = .str (Lib.trimS s cut) := by
  refine PFun.lib rfl fun w hw => ?_
  refine (Any.strings_Trim_laid Tryz.lays160 (by kernel_rfl) (bytes s) (bytes cut) w (by rw [bytes_size]; omega) (by rw [bytes_size]; exact hc) (fun j b hb => ha b (List.mem_of_getElem? hb))).mono ?_
  rintro e w' ⟨rfl, hb⟩
  exact ⟨_, rfl, rfl, rfl, hb⟩
end Go.Proofs.YtdehdgbdcfkpbaaGreatDoor
namespace Go.Proofs.YtdehdgbdcfkpbaaGreatDoor
open Go Go.Pw
variable {Gl : Glob}
attribute [local irreducible] PW PWL OpP PCalls PWO

theorem head_some {s : Str} (h : ¬ s = []) : s[0]? = some (s.headD 0) := by cases s with | nil => exact (h rfl).elim | cons a l => rfl
/-! ### source.printable -/
def pbyte (c : UInt8) : Bool := !((c.toNat : Int) != 9 && (decide ((c.toNat : Int) < 32) || decide ((c.toNat : Int) > 126)))
theorem c97 (s : Str) (hl : Small s) : PFun Tryz.prog Gl 97 [.str s] fun r => r = .bool (s.all pbyte) := by
  refine PFun.of hT Tryz.func97 rfl fun B hD => ?_
  refine pw_norm rfl ?_
  unfold Small at hl
  (refine zGo ?_)
  refine pw_for hD (fun i : Nat => [(3, .int .i64 i)]) (fun _ => []) (fun i => i ≤ s.length ∧ ∀ (j : Nat) c, j < i → s[j]? = some c → pbyte c = true) (fun i => s.length - i) 0 ⟨by omega, by intro j c h; omega⟩ 0 rfl (fun _ => rfl) (StLe.refl _) (fun _ => rfl) (fun _ => rfl) (by (exact zLe)) ?_
  rintro i ⟨hi, hno⟩
  (refine zGo ?_)
  refine pw_cond rfl (fun h => ?_) (fun h => ?_)
  · simp only [decide_eq_true_eq] at h
    have hlt : i < s.length := by omega
    (refine zGo ?_)
    (refine pl_op rfl (op_of (v_indexs (c := s[i]) hT rfl rfl rfl rfl (by omega) (by simp [hlt])) ?_); (refine zNp ?_))
    (refine zGo ?_)
    refine pl_and 11 14 25 (decide ((s[i].toNat : Int) < 32) || decide ((s[i].toNat : Int) > 126)) rfl rfl rfl (fun _ => ?_) (fun _ => ?_) ?_
    · refine pl_norm rfl ?_
      (refine zGo ?_)
      (refine pl_on rfl rfl (op_of (v_indexs (c := s[i]) hT rfl rfl rfl rfl (by omega) (by simp [hlt])) ?_); (refine zNp ?_))
      (refine zGo ?_)
      refine pl_or 5 19 24 (decide ((s[i].toNat : Int) > 126)) rfl rfl rfl (fun _ => ?_) (fun _ => ?_) ?_
      · refine pl_norm rfl ?_
        (refine zGo ?_)
        exact ⟨by (exact zLe), StLe.refl _⟩
      · refine pl_norm rfl ?_
        (refine zGo ?_)
        (refine pl_on rfl rfl (op_of (v_indexs (c := s[i]) hT rfl rfl rfl rfl (by omega) (by simp [hlt])) ?_); (refine zNp ?_))
        (refine zGo ?_)
        exact ⟨by (exact zLe), StLe.refl _⟩
      refine pl_norm rfl ?_
      (refine zGo ?_)
      exact ⟨by (exact zLe), StLe.refl _⟩
    · refine pl_norm rfl ?_
      (refine zGo ?_)
      exact ⟨by (exact zLe), StLe.refl _⟩
    refine pl_norm rfl ?_
    (refine zGo ?_)
    refine pw_cond rfl (fun h2 => ?_) (fun h2 => ?_)
    · (refine zGo ?_)
      refine ret1 _ rfl ?_ rfl
      have : s.all pbyte = false := List.all_eq_false.2 ⟨s[i], List.getElem_mem hlt, by simp only [pbyte, h2]; simp⟩
      rw [this]
    · (refine zGo ?_)
      refine ⟨i + 1, ⟨by omega, fun j d hj hd => ?_⟩, by omega, by (exact zLe), StLe.refl _⟩
      rcases Nat.lt_succ_iff_lt_or_eq.1 hj with hj | rfl
      · exact hno j d hj hd
      · rw [List.getElem?_eq_getElem hlt] at hd; cases hd
        simp only [pbyte, h2]; rfl
  · simp only [decide_eq_false_iff_not] at h
    (refine zGo ?_)
    refine ret1 _ rfl ?_ rfl
    have : s.all pbyte = true := List.all_eq_true.2 fun c hc => by
      obtain ⟨j, hj⟩ := List.mem_iff_getElem?.1 hc
      exact hno j c (by have := (List.getElem?_eq_some_iff.1 hj).1; omega) hj
    rw [this]
end Go.Proofs.YtdehdgbdcfkpbaaGreatDoor
namespace Go.Proofs.YtdehdgbdcfkpbaaGreatDoor
open Go Go.Pw
variable {Gl : Glob}
attribute [local irreducible] PW PWL OpP PCalls PWO
set_option maxHeartbeats 20000000

/-! ### source.ValidName -/
def vhead (s : Str) : Bool := ((((s == []) || decide ((s.length : Int) > 24)) || (s == [97, 110, 121])) || decide (((s.headD 0).toNat : Int) < 97)) || decide (((s.headD 0).toNat : Int) > 122)
def vbyte (c : UInt8) : Bool := !((((!(decide ((c.toNat : Int) ≥ 97) && decide ((c.toNat : Int) ≤ 122)) && !(decide ((c.toNat : Int) ≥ 48) && decide ((c.toNat : Int) ≤ 57))) && ((c.toNat : Int) != 45)) && ((c.toNat : Int) != 95)))
def vname (s : Str) : Bool := !vhead s && s.all vbyte
theorem c85 (s : Str) : PFun Tryz.prog Gl 85 [.str s] fun r => r = .bool (vname s) := by
  refine PFun.of hT Tryz.func85 rfl fun B hD => ?_
  refine pw_norm rfl ?_
  (refine zGo ?_)
  (refine pl_or 4 8 12 (decide ((s.length : Int) > 24)) rfl rfl rfl (fun hb => ?_) (fun hb => ?_) ?_; (focus ((refine zNp ?_); (refine zGo ?_); exact ⟨by (exact zLe), StLe.refl _⟩)); (focus ((refine zNp ?_); (refine zGo ?_); exact ⟨by (exact zLe), StLe.refl _⟩)); (refine zNp ?_); (refine zGo ?_))
  (refine pl_or 3 13 16 (s == [97, 110, 121]) rfl rfl rfl (fun hb => ?_) (fun hb => ?_) ?_; (focus ((refine zNp ?_); (refine zGo ?_); exact ⟨by (exact zLe), StLe.refl _⟩)); (focus ((refine zNp ?_); (refine zGo ?_); exact ⟨by (exact zLe), StLe.refl _⟩)); (refine zNp ?_); (refine zGo ?_))
  (refine pl_or 4 17 21 (decide (((s.headD 0).toNat : Int) < 97)) rfl rfl rfl (fun hb => ?_) (fun hb => ?_) ?_; (focus ((refine zNp ?_); (refine zGo ?_); exact ⟨by (exact zLe), StLe.refl _⟩)); (focus ((refine zNp ?_); (refine zGo ?_); (refine pl_on rfl rfl (op_of (v_indexs (c := s.headD 0) hT rfl rfl rfl rfl (by omega) (head_some (by rintro rfl; simp at hb))) ?_); (refine zNp ?_)); (refine zGo ?_); exact ⟨by (exact zLe), StLe.refl _⟩)); (refine zNp ?_); (refine zGo ?_))
  (refine pl_or 4 22 26 (decide (((s.headD 0).toNat : Int) > 122)) rfl rfl rfl (fun hb => ?_) (fun hb => ?_) ?_; (focus ((refine zNp ?_); (refine zGo ?_); exact ⟨by (exact zLe), StLe.refl _⟩)); (focus ((refine zNp ?_); (refine zGo ?_); (refine pl_on rfl rfl (op_of (v_indexs (c := s.headD 0) hT rfl rfl rfl rfl (by omega) (head_some (by rintro rfl; simp at hb))) ?_); (refine zNp ?_)); (refine zGo ?_); exact ⟨by (exact zLe), StLe.refl _⟩)); (refine zNp ?_); (refine zGo ?_))
  refine pw_cond rfl (fun h => ?_) (fun h => ?_)
  · (refine zGo ?_)
    refine ret1 _ rfl ?_ rfl
    have h' : vhead s = true := h
    simp [vname, h']
  have h' : vhead s = false := h
  have hl : s.length ≤ 24 := by
    have hh := h'
    simp only [vhead, Bool.or_eq_false_iff, decide_eq_false_iff_not] at hh
    omega
  (refine zGo ?_)
  refine pw_for hD (fun i : Nat => [(3, .int .i64 i)]) (fun _ => []) (fun i => i ≤ s.length ∧ ∀ (j : Nat) c, j < i → s[j]? = some c → vbyte c = true) (fun i => s.length - i) 0 ⟨by omega, by intro j c h; omega⟩ 0 rfl (fun _ => rfl) (StLe.refl _) (fun _ => rfl) (fun _ => rfl) (by (exact zLe)) ?_
  rintro i ⟨hi, hno⟩
  (refine zGo ?_)
  refine pw_cond rfl (fun h2 => ?_) (fun h2 => ?_)
  · simp only [decide_eq_true_eq] at h2
    have hlt : i < s.length := by omega
    (refine zGo ?_)
    (refine pl_op rfl (op_of (v_indexs (c := s[i]) hT rfl rfl rfl rfl (by omega) (by simp [hlt])) ?_); (refine zNp ?_))
    (refine zGo ?_)
    (refine pl_and 5 37 42 (decide ((s[i].toNat : Int) ≤ 122)) rfl rfl rfl (fun hb => ?_) (fun hb => ?_) ?_; (focus ((refine zNp ?_); (refine zGo ?_); (refine pl_on rfl rfl (op_of (v_indexs (c := s[i]) hT rfl rfl rfl rfl (by omega) (by simp [hlt])) ?_); (refine zNp ?_)); (refine zGo ?_); exact ⟨by (exact zLe), StLe.refl _⟩)); (focus ((refine zNp ?_); (refine zGo ?_); exact ⟨by (exact zLe), StLe.refl _⟩)); (refine zNp ?_); (refine zGo ?_))
    (refine pl_op rfl (op_of (v_indexs (c := s[i]) hT rfl rfl rfl rfl (by omega) (by simp [hlt])) ?_); (refine zNp ?_))
    (refine zGo ?_)
    (refine pl_and 5 47 52 (decide ((s[i].toNat : Int) ≤ 57)) rfl rfl rfl (fun hb => ?_) (fun hb => ?_) ?_; (focus ((refine zNp ?_); (refine zGo ?_); (refine pl_on rfl rfl (op_of (v_indexs (c := s[i]) hT rfl rfl rfl rfl (by omega) (by simp [hlt])) ?_); (refine zNp ?_)); (refine zGo ?_); exact ⟨by (exact zLe), StLe.refl _⟩)); (focus ((refine zNp ?_); (refine zGo ?_); exact ⟨by (exact zLe), StLe.refl _⟩)); (refine zNp ?_); (refine zGo ?_))
    (refine pl_and 3 55 58 (!(decide ((s[i].toNat : Int) ≥ 48) && decide ((s[i].toNat : Int) ≤ 57))) rfl rfl rfl (fun hb => ?_) (fun hb => ?_) ?_; (focus ((refine zNp ?_); (refine zGo ?_); exact ⟨by (exact zLe), StLe.refl _⟩)); (focus ((refine zNp ?_); (refine zGo ?_); exact ⟨by (exact zLe), StLe.refl _⟩)); (refine zNp ?_); (refine zGo ?_))
    (refine pl_and 5 59 64 ((s[i].toNat : Int) != 45) rfl rfl rfl (fun hb => ?_) (fun hb => ?_) ?_; (focus ((refine zNp ?_); (refine zGo ?_); (refine pl_on rfl rfl (op_of (v_indexs (c := s[i]) hT rfl rfl rfl rfl (by omega) (by simp [hlt])) ?_); (refine zNp ?_)); (refine zGo ?_); exact ⟨by (exact zLe), StLe.refl _⟩)); (focus ((refine zNp ?_); (refine zGo ?_); exact ⟨by (exact zLe), StLe.refl _⟩)); (refine zNp ?_); (refine zGo ?_))
    (refine pl_and 5 65 70 ((s[i].toNat : Int) != 95) rfl rfl rfl (fun hb => ?_) (fun hb => ?_) ?_; (focus ((refine zNp ?_); (refine zGo ?_); (refine pl_on rfl rfl (op_of (v_indexs (c := s[i]) hT rfl rfl rfl rfl (by omega) (by simp [hlt])) ?_); (refine zNp ?_)); (refine zGo ?_); exact ⟨by (exact zLe), StLe.refl _⟩)); (focus ((refine zNp ?_); (refine zGo ?_); exact ⟨by (exact zLe), StLe.refl _⟩)); (refine zNp ?_); (refine zGo ?_))
    refine pw_cond rfl (fun h3 => ?_) (fun h3 => ?_)
    · (refine zGo ?_)
      refine ret1 _ rfl ?_ rfl
      have : s.all vbyte = false := List.all_eq_false.2 ⟨s[i], List.getElem_mem hlt, by unfold vbyte; rw [h3]; simp⟩
      rw [vname, this, Bool.and_false]
    · (refine zGo ?_)
      refine ⟨i + 1, ⟨by omega, fun j d hj hd => ?_⟩, by omega, by (exact zLe), StLe.refl _⟩
      rcases Nat.lt_succ_iff_lt_or_eq.1 hj with hj | rfl
      · exact hno j d hj hd
      · rw [List.getElem?_eq_getElem hlt] at hd; cases hd
        unfold vbyte; rw [h3]; rfl
  · simp only [decide_eq_false_iff_not] at h2
    (refine zGo ?_)
    refine ret1 _ rfl ?_ rfl
    have : s.all vbyte = true := List.all_eq_true.2 fun c hc => by
      obtain ⟨j, hj⟩ := List.mem_iff_getElem?.1 hc
      exact hno j c (by have := (List.getElem?_eq_some_iff.1 hj).1; omega) hj
    rw [vname, this, h']; rfl
end Go.Proofs.YtdehdgbdcfkpbaaGreatDoor
namespace Go.Proofs.YtdehdgbdcfkpbaaGreatDoor
open Go Go.Pw
variable {Gl : Glob}
attribute [local irreducible] PW PWL OpP PCalls PWO
set_option maxHeartbeats 20000000

/-! ### source.Number -/
def nhead (s : Str) (most : Int) : Bool := (((s == []) || decide ((s.length : Int) > 19)) || (decide ((s.length : Int) > 1) && (((s.headD 0).toNat : Int) == 48))) || decide (most < 0)
def dbad (c : UInt8) : Bool := decide ((c.toNat : Int) < 48) || decide ((c.toNat : Int) > 57)
def dval (s : Str) : Nat := s.foldl (fun n c => 10 * n + (c.toNat - 48)) 0
theorem dval_snoc (s : Str) (c : UInt8) : dval (s ++ [c]) = 10 * dval s + (c.toNat - 48) := by simp [dval]
theorem dval_lt : ∀ (s : Str), (∀ c ∈ s, dbad c = false) → dval s < 10 ^ s.length := by
  intro s
  rw [← List.reverse_reverse s]
  generalize s.reverse = r
  induction r with
  | nil => intro _; decide
  | cons c r ih =>
    intro h
    rw [List.reverse_cons] at h ⊢
    rw [dval_snoc]
    have h1 := ih (fun d hd => h d (by simp [List.mem_reverse] at hd ⊢; exact .inl hd))
    have h2 := h c (by simp)
    simp only [dbad, Bool.or_eq_false_iff, decide_eq_false_iff_not] at h2
    have : (r.reverse ++ [c]).length = r.reverse.length + 1 := by simp
    rw [this, Nat.pow_succ]
    omega
def number (s : Str) (least most : Int) : Int × Bool :=
  if nhead s most then (0, false) else if s.any dbad then (0, false) else if (decide ((dval s : Int) > most) || decide ((dval s : Int) < least)) then (0, false) else ((dval s : Int), true)
theorem c103 (s : Str) (least most : Int) (hl : Small s) (hm : most ≤ 9223372036854775807) : PFun Tryz.prog Gl 103 [.str s, .int .i64 least, .int .i64 most] fun r => r = .tup [.int .i64 (number s least most).1, .bool (number s least most).2] := by
  refine PFun.of hT Tryz.func103 rfl fun B hD => ?_
  refine pw_norm rfl ?_
  unfold Small at hl
  (refine zGo ?_)
  (refine pl_or 4 12 16 (decide ((s.length : Int) > 19)) rfl rfl rfl (fun hb => ?_) (fun hb => ?_) ?_; (focus ((refine zNp ?_); (refine zGo ?_); exact ⟨by (exact zLe), StLe.refl _⟩)); (focus ((refine zNp ?_); (refine zGo ?_); exact ⟨by (exact zLe), StLe.refl _⟩)); (refine zNp ?_); (refine zGo ?_))
  refine pl_or 9 17 26 (decide ((s.length : Int) > 1) && (((s.headD 0).toNat : Int) == 48)) rfl rfl rfl (fun hb => ?_) (fun hb => ?_) ?_
  · refine pl_norm rfl ?_
    (refine zGo ?_)
    exact ⟨by (exact zLe), StLe.refl _⟩
  · refine pl_norm rfl ?_
    (refine zGo ?_)
    (refine pl_and 4 21 25 (((s.headD 0).toNat : Int) == 48) rfl rfl rfl (fun hb => ?_) (fun hb => ?_) ?_; (focus ((refine zNp ?_); (refine zGo ?_); (refine pl_on rfl rfl (op_of (v_indexs (c := s.headD 0) hT rfl rfl rfl rfl (by omega) (head_some (by rintro rfl; simp at hb))) ?_); (refine zNp ?_)); (refine zGo ?_); exact ⟨by (exact zLe), StLe.refl _⟩)); (focus ((refine zNp ?_); (refine zGo ?_); exact ⟨by (exact zLe), StLe.refl _⟩)); (refine zNp ?_); (refine zGo ?_))
    exact ⟨by (exact zLe), StLe.refl _⟩
  refine pl_norm rfl ?_
  (refine zGo ?_)
  (refine pl_or 3 27 30 (decide (most < 0)) rfl rfl rfl (fun hb => ?_) (fun hb => ?_) ?_; (focus ((refine zNp ?_); (refine zGo ?_); exact ⟨by (exact zLe), StLe.refl _⟩)); (focus ((refine zNp ?_); (refine zGo ?_); exact ⟨by (exact zLe), StLe.refl _⟩)); (refine zNp ?_); (refine zGo ?_))
  refine pw_cond rfl (fun h => ?_) (fun h => ?_)
  · (refine zGo ?_)
    refine ret1 _ rfl ?_ rfl
    have h' : nhead s most = true := h
    simp [number, h']
  have h' : nhead s most = false := h
  have hh := h'
  simp only [nhead, Bool.or_eq_false_iff, decide_eq_false_iff_not] at hh
  (refine zGo ?_)
  refine pw_for hD (fun i : Nat => [(8, .int .u64 (dval (s.take i) : Int)), (9, .int .i64 i)]) (fun _ => []) (fun i => i ≤ s.length ∧ ∀ (j : Nat) c, j < i → s[j]? = some c → dbad c = false) (fun i => s.length - i) 0 ⟨by omega, by intro j c h; omega⟩ 0 rfl (fun _ => rfl) (StLe.refl _) (fun _ => rfl) (fun _ => rfl) (by (exact zLe)) ?_
  rintro i ⟨hi, hno⟩
  (refine zGo ?_)
  refine pw_cond rfl (fun h2 => ?_) (fun h2 => ?_)
  · simp only [decide_eq_true_eq] at h2
    have hlt : i < s.length := by omega
    (refine zGo ?_)
    (refine pl_op rfl (op_of (v_indexs (c := s[i]) hT rfl rfl rfl rfl (by omega) (by simp [hlt])) ?_); (refine zNp ?_))
    (refine zGo ?_)
    (refine pl_or 5 41 46 (decide ((s[i].toNat : Int) > 57)) rfl rfl rfl (fun hb => ?_) (fun hb => ?_) ?_; (focus ((refine zNp ?_); (refine zGo ?_); exact ⟨by (exact zLe), StLe.refl _⟩)); (focus ((refine zNp ?_); (refine zGo ?_); (refine pl_on rfl rfl (op_of (v_indexs (c := s[i]) hT rfl rfl rfl rfl (by omega) (by simp [hlt])) ?_); (refine zNp ?_)); (refine zGo ?_); exact ⟨by (exact zLe), StLe.refl _⟩)); (refine zNp ?_); (refine zGo ?_))
    refine pw_cond rfl (fun h3 => ?_) (fun h3 => ?_)
    · (refine zGo ?_)
      refine ret1 _ rfl ?_ rfl
      have : s.any dbad = true := List.any_eq_true.2 ⟨s[i], List.getElem_mem hlt, h3⟩
      simp [number, h', this]
    · have h3' := h3
      simp only [Bool.or_eq_false_iff, decide_eq_false_iff_not] at h3'
      have hv : dval (s.take i) < 10 ^ 18 := by
        have := dval_lt (s.take i) (fun c hc => by
          obtain ⟨j, hj⟩ := List.mem_iff_getElem?.1 hc
          rw [List.getElem?_take] at hj
          split at hj
          · exact hno j c (by assumption) hj
          · cases hj)
        have h4 : (s.take i).length ≤ 18 := by simp; omega
        exact Nat.lt_of_lt_of_le this (Nat.pow_le_pow_right (by omega) h4)
      (refine zGo ?_)
      (refine pl_op rfl (op_of (v_arith rfl rfl rfl rfl (IntWalk.u64_in _ (by omega))) ?_); (refine zNp ?_))
      (refine zGo ?_)
      (refine pl_op rfl (op_of (v_indexs (c := s[i]) hT rfl rfl rfl rfl (by omega) (by simp [hlt])) ?_); (refine zNp ?_))
      (refine pl_op rfl (op_of (v_arith rfl rfl rfl rfl (IntWalk.u8_in _ (by omega))) ?_); (refine zNp ?_))
      (refine pl_op rfl (op_of (v_conv hT rfl rfl rfl rfl (IntWalk.u64_in _ (by omega))) ?_); (refine zNp ?_))
      (refine pl_op rfl (op_of (v_arith rfl rfl rfl rfl (IntWalk.u64_in _ (by omega))) ?_); (refine zNp ?_))
      (refine zGo ?_)
      have hs : (dval (s.take (i + 1)) : Int) = 10 * (dval (s.take i) : Int) + ((s[i].toNat : Int) - 48) := by
        rw [List.take_succ_eq_append_getElem hlt, dval_snoc]; omega
      refine ⟨i + 1, ⟨by omega, fun j d hj hd => ?_⟩, by omega, ?_, StLe.refl _⟩
      · rcases Nat.lt_succ_iff_lt_or_eq.1 hj with hj | rfl
        · exact hno j d hj hd
        · rw [List.getElem?_eq_getElem hlt] at hd; cases hd; exact h3
      · simp only [hs]
        (exact zLe)
  · simp only [decide_eq_false_iff_not] at h2
    have hie : i = s.length := by omega
    subst hie
    have hany : s.any dbad = false := List.any_eq_false.2 fun c hc => by
      obtain ⟨j, hj⟩ := List.mem_iff_getElem?.1 hc
      simp [hno j c (by have := (List.getElem?_eq_some_iff.1 hj).1; omega) hj]
    have hv : dval s < 10 ^ 19 := by
      have := dval_lt s (fun c hc => by simpa using List.any_eq_false.1 hany c hc)
      exact Nat.lt_of_lt_of_le this (Nat.pow_le_pow_right (by omega) (by omega))
    rw [List.take_length]
    (refine zGo ?_)
    (refine pl_op rfl (op_of (v_conv hT rfl rfl rfl rfl (IntWalk.u64_in _ (by omega))) ?_); (refine zNp ?_))
    (refine zGo ?_)
    (refine pl_or 5 59 64 (decide ((dval s : Int) < least)) rfl rfl rfl (fun hb => ?_) (fun hb => ?_) ?_; (focus ((refine zNp ?_); (refine zGo ?_); exact ⟨by (exact zLe), StLe.refl _⟩)); (focus ((refine zNp ?_); (refine zGo ?_); have hb' := hb; simp only [decide_eq_false_iff_not] at hb'; (refine pl_on rfl rfl (op_of (v_conv (c := (dval s : Int)) hT rfl rfl rfl rfl (IntWalk.i64_in _ (by omega))) ?_); (refine zNp ?_)); (refine zGo ?_); exact ⟨by (exact zLe), StLe.refl _⟩)); (refine zNp ?_); (refine zGo ?_))
    refine pw_cond rfl (fun h3 => ?_) (fun h3 => ?_)
    · (refine zGo ?_)
      refine ret1 _ rfl ?_ rfl
      simp only [number, h', hany, h3, if_true, if_false, Bool.false_eq_true]
      rfl
    · have h3' := h3
      simp only [Bool.or_eq_false_iff, decide_eq_false_iff_not] at h3'
      (refine zGo ?_)
      (refine pl_op rfl (op_of (v_conv (c := (dval s : Int)) hT rfl rfl rfl rfl (IntWalk.i64_in _ (by omega))) ?_); (refine zNp ?_))
      (refine zGo ?_)
      refine ret1 _ rfl ?_ rfl
      simp only [number, h', hany, h3, if_false, Bool.false_eq_true]
      rfl
end Go.Proofs.YtdehdgbdcfkpbaaGreatDoor
