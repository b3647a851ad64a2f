/-
  The library functions that the topology's code calls, as contracts over pure values.
-/
import Derived.Test.YtdehdgbdcfkpbaaGreatDoorKEnc
import Derived.Test.YtdehdgbdcfkpbaaGreatDoorJPwLoop
import Derived.Test.YtdehdgbdcfkpbaaGreatDoorShelf
import Derived.Shelf.Strings.SlTrimAscii
namespace Go.Proofs.YtdehdgbdcfkpbaaGreatDoor
open Go Go.Pw Go.RowKit
variable {Gl : Glob}
/-- The package-level number that strings.Index looks at reads as some number. -/
def GM (Gl : Glob) : Prop := ∀ w, GlobW Gl w → ∃ m : Int, w.cell? ⟨1, 0, none⟩ = some (.int .i64 m)
def bytes (s : Str) : ByteArray := ⟨s.toArray⟩
theorem bytes_data (s : Str) : (bytes s).data.toList = s := rfl
theorem bytes_size (s : Str) : (bytes s).size = s.length := by simp [bytes, ByteArray.size]
/-- strings.Split at a one-byte separator. -/
def splitAt (c : UInt8) (s : Str) : List Str := (Lib.splitB (bytes [c]) 0 (Lib.countB (bytes s) (bytes [c])) (bytes s)).map fun b => b.data.toList
theorem splitAt_len (c : UInt8) (s : Str) : (splitAt c s).length = s.count c + 1 := by
  rw [splitAt, List.length_map, Lib.splitB_all _ (by rw [bytes_size]; simp) 0 _ _ rfl]
  show Lib.count s [c] + 1 = _
  rw [Lib.count_one]
theorem c96 (hG : GM Gl) (s : Str) (c : UInt8) (hs : s.length < 4294967281) : PFun Tryz.prog Gl 96 [.str s, .str [c]] fun r => r = .sl ((splitAt c s).map .str) := by
  refine PFun.libRow (T := 9) rfl fun w hw => ?_
  obtain ⟨m, hm⟩ := hG w hw
  refine (Tryz.strings_Split (bytes s) (bytes [c]) m w (by rw [bytes_size]; exact hs) hm (by rw [bytes_size]; simp)).mono ?_
  rintro e w' ⟨rfl, rfl⟩
  have hl : (splitAt c s).length = Lib.countB (bytes s) (bytes [c]) + 1 := by
    rw [splitAt, List.length_map, Lib.splitB_all _ (by rw [bytes_size]; simp) 0 _ _ rfl]
  refine ⟨(splitAt c s).map .str, ?_, ?_, ?_, rfl, ?_⟩
  · rw [List.length_map, hl]
  · simp [isLit]
  · have := List.count_le_length (a := c) (l := s)
    rw [List.length_map, splitAt_len]; unfold maxLen; omega
  · congr 2
    apply Array.ext'
    simp only [splitAt, List.map_map]
    exact List.map_congr_left fun b _ => by cases b; rfl
theorem c128 (hG : GM Gl) (s sep : Str) (hs : s.length < 4294967281) : PFun Tryz.prog Gl 128 [.str s, .str sep] fun r => r = .tup [.str (Lib.cut s sep).1, .str (Lib.cut s sep).2.1, .bool (Lib.cut s sep).2.2] := by
  refine PFun.libT rfl fun w hw => ?_
  obtain ⟨m, hm⟩ := hG w hw
  refine (Tryz.strings_Cut (bytes s) (bytes sep) m w (by rw [bytes_size]; exact hs) hm).mono ?_
  rintro e w' ⟨rfl, n, rfl⟩
  exact ⟨_, rfl, rfl, rfl, ⟨rfl, rfl, rfl, Nat.le_refl _, fun _ _ => rfl⟩⟩
theorem c127 (s cut : Str) (hs : s.length < 4294967281) (hc : cut.length < 4294967281) (ha : ∀ b ∈ cut, b.toNat < 128) : PFun Tryz.prog Gl 127 [.str s, .str cut] fun r => r = .str (Lib.trimS s cut) := by
  refine PFun.lib rfl fun w hw => ?_
  refine (Any.strings_Trim_laid Tryz.lays160 (by kernel_rfl) (bytes s) (bytes cut) w (by rw [bytes_size]; omega) (by rw [bytes_size]; exact hc) (fun j b hb => ha b (List.mem_of_getElem? hb))).mono ?_
  rintro e w' ⟨rfl, hb⟩
  exact ⟨_, rfl, rfl, rfl, hb⟩
end Go.Proofs.YtdehdgbdcfkpbaaGreatDoor
