/-
 The reference's Join.
 The contracts of the library functions that the code calls, laid at this translation by the shelf's own program, in plain words; what is not needed is left out.
 Decimal numbers as strconv writes them, and the texts of addresses and prefixes.
-/
import Derived.Test.YtkaobkjcjodffaaGreatDoorTB8
import Derived.Test.YtkaobkjcjodffaaGreatDoorTB6
import Derived.Test.YtkaobkjcjodffaaGreatDoorSPwGlob
import Derived.Shelf.Strings.BuilderK
import Derived.Shelf.Strings.OnBuilder
import Derived.Shelf.Strconv.Itoa3
import Derived.Test.YtkaobkjcjodffaaGreatDoorProg
import Derived.Lib.AppendIntMem
import Derived.Test.YtkaobkjcjodffaaGreatDoorTLib
import Derived.Test.YtkaobkjcjodffaaGreatDoorTTab
set_option maxHeartbeats 20000000
set_option maxRecDepth 100000
namespace Go.Proofs.YtkaobkjcjodffaaGreatDoor
open Go Go.Pw
variable {Gl : Glob}
attribute [local irreducible] PW PWL OpP PCalls PWO
theorem joinW_at (w : List Str) (k : Nat) (h : k < w.length) : joinW k (w.drop k) = (if k = 0 then [] else [32]) ++ w.getD k [] ++ joinW (k + 1) (w.drop (k + 1)) := by
 rw [List.drop_eq_getElem_cons h, List.getD, List.getElem?_eq_getElem h]
 cases k with
 | zero => simp [joinW]
 | succ k => simp [joinW]
theorem c27 (l : List TLine) (hl : Small l) (hw : ∀ x ∈ l, Small x.words) (hb : Small (textS l)) : PFun Tryz.prog Gl 21 [.sl (l.map eLine)] fun r => r = .str (textS l) := by
 refine PFun.of hT Tryz.func21 rfl fun B hD => ?_
 refine pw_norm rfl ?_
 unfold Small at hl hb
 (refine zGo ?_)
 refine pw_for hD (fun a : Nat × Str => [(3, .str a.2), (4, .int .i64 a.1)]) (fun _ => []) (fun a => a.1 ≤ l.length ∧ a.2 ++ textS (l.drop a.1) = textS l) (fun a => l.length - a.1) (0, []) ⟨Nat.zero_le _, rfl⟩ 0 rfl (fun _ => rfl) (StLe.refl _) (fun _ => rfl) (fun _ => rfl) zLe ?_
 rintro ⟨i, s⟩ ⟨hi, hs⟩
 dsimp only at hi hs ⊢
 (refine zGo ?_)
 refine pw_cond rfl (fun h => ?_) (fun h => ?_)
 ·simp only [decide_eq_true_eq, List.length_map] at h
  have hlt : i < l.length := by omega
  have hp : (l.map eLine)[i]? = some (eLine l[i]) := by simp [hlt]
  have hwi := hw _ (List.getElem_mem hlt)
  have hd : textS (l.drop i) = lineS (l[i]).words ++ textS (l.drop (i + 1)) := by unfold textS; rw [List.drop_eq_getElem_cons hlt, List.map_cons, List.flatten_cons]
  rw [hd, lineS] at hs
  generalize l[i] = x at hp hwi hs
  unfold Small at hwi
  (refine zGo ?_)
  refine pw_for hD (fun a : Nat × Str => [(3, .str a.2), (5, .int .i64 a.1)]) (fun _ => []) (fun a => a.1 ≤ x.words.length ∧ a.2 ++ (joinW a.1 (x.words.drop a.1) ++ [10] ++ textS (l.drop (i + 1))) = textS l) (fun a => x.words.length - a.1) (0, s) ⟨Nat.zero_le _, hs⟩ 0 rfl (fun _ => rfl) (StLe.refl _) (fun _ => rfl) (fun _ => rfl) zLe ?_
  rintro ⟨k, u⟩ ⟨hk, hu⟩
  dsimp only at hk hu ⊢
  have hul : u.length ≤ (textS l).length := by rw [← hu]; simp
  (refine zGo ?_)
  (refine pl_op rfl (op_of (v_index (p := eLine x) hT rfl rfl rfl rfl (by omega) (hp) rfl) ?_); (refine zNp ?_))
  (refine zGo ?_)
  refine pw_cond rfl (fun h1 => ?_) (fun h1 => ?_)
  ·simp only [decide_eq_true_eq, List.length_map] at h1
   have hlk : k < x.words.length := by omega
   rw [joinW_at x.words k hlk] at hu
   have hg := str_at x.words k hlk
   generalize x.words.getD k [] = wd at hu hg
   have hul2 : u.length + wd.length + 1 ≤ (textS l).length := by rw [← hu]; simp; omega
   (refine zGo ?_)
   refine pw_cond rfl (fun h2 => ?_) (fun h2 => ?_)
   ·have hk0 : ¬ k = 0 := by simp at h2; omega
    rw [if_neg hk0] at hu
    (refine zGo ?_)
    (refine pl_op rfl (op_of (v_concat rfl rfl rfl (by (try simp); omega)) ?_); (refine zNp ?_))
    (refine zGo ?_)
    (refine pl_op rfl (op_of (v_index (p := eLine x) hT rfl rfl rfl rfl (by omega) (hp) rfl) ?_); (refine zNp ?_))
    (refine zGo ?_)
    (refine pl_op rfl (op_of (v_index (p := .str wd) hT rfl rfl rfl rfl (by omega) (hg) rfl) ?_); (refine zNp ?_))
    (refine zGo ?_)
    (refine pl_op rfl (op_of (v_concat rfl rfl rfl (by (try simp); omega)) ?_); (refine zNp ?_))
    (refine zGo ?_)
    refine ⟨(k + 1, u ++ [32] ++ wd), ⟨hlk, ?_⟩, by show _ - (k + 1) < _ - k; omega, zLe, StLe.refl _⟩
    rw [← hu]; simp
   ·have hk0 : k = 0 := by simp at h2; omega
    rw [if_pos hk0] at hu
    (refine zGo ?_)
    (refine pl_op rfl (op_of (v_index (p := eLine x) hT rfl rfl rfl rfl (by omega) (hp) rfl) ?_); (refine zNp ?_))
    (refine zGo ?_)
    (refine pl_op rfl (op_of (v_index (p := .str wd) hT rfl rfl rfl rfl (by omega) (hg) rfl) ?_); (refine zNp ?_))
    (refine zGo ?_)
    (refine pl_op rfl (op_of (v_concat rfl rfl rfl (by (try simp); omega)) ?_); (refine zNp ?_))
    (refine zGo ?_)
    refine ⟨(k + 1, u ++ wd), ⟨hlk, ?_⟩, by show _ - (k + 1) < _ - k; omega, zLe, StLe.refl _⟩
    rw [← hu]; simp
  ·simp only [decide_eq_false_iff_not, List.length_map] at h1
   have hke : k = x.words.length := by omega
   rw [hke, List.drop_length, show joinW x.words.length [] = [] from by cases x.words.length <;> rfl] at hu
   have hul3 : u.length + 1 ≤ (textS l).length := by
    have := congrArg List.length hu
    simp only [List.length_append, List.length_cons, List.length_nil] at this
    omega
   (refine zGo ?_)
   (refine pl_op rfl (op_of (v_concat rfl rfl rfl (by show _ + 1 ≤ _; omega)) ?_); (refine zNp ?_))
   (refine zGo ?_)
   refine ⟨(i + 1, u ++ [10]), ⟨hlt, ?_⟩, by show _ - (i + 1) < _ - i; omega, zLe, StLe.refl _⟩
   rw [← hu]; simp
 ·simp only [decide_eq_false_iff_not, List.length_map] at h
  have hie : i = l.length := by omega
  have hs' : s = textS l := by rw [← hs, hie, List.drop_length]; simp [textS]
  subst hs'
  (refine zGo ?_)
  exact ret1 _ rfl rfl rfl
end Go.Proofs.YtkaobkjcjodffaaGreatDoor
namespace Go.Proofs.YtkaobkjcjodffaaGreatDoor
open Go Go.Pw
variable {Gl : Glob}
attribute [local irreducible] PW PWL OpP PCalls PWO
instance (s sep : Str) : ConF Tryz.prog Gl 147 [.str s, .str sep] (GM Gl ∧ s.length < 4294967281) (.tup [.str (Lib.cut s sep).1, .str (Lib.cut s sep).2.1, .bool (Lib.cut s sep).2.2]) := ⟨e147, fun h => c128 h.1 s sep h.2⟩
instance (s : Str) : ConF Tryz.prog Gl 68 [.str s] True (.bool (vname s)) := ⟨e68, fun _ => c85 s⟩
instance (s : Str) : ConF Tryz.prog Gl 75 [.str s] True (.bool (vname s)) := ⟨e75, fun _ => c92 s⟩
instance (s : Str) : ConF Tryz.prog Gl 51 [.str s, .int .u8 45] (s.length < 4294967281) (.sl ((parts 45 s).map .str)) := ⟨e51, fun h => c58 s 45 (by unfold Small; omega)⟩
instance (n : Int) : ConF Tryz.prog Gl 35 [.int .i64 n] (0 ≤ n ∧ n < 10000) (.str (dec n.toNat)) := ⟨e35, fun h => c35s n h.1 h.2⟩
def dayNames : List Str := [[109, 111, 110], [116, 117, 101], [119, 101, 100], [116, 104, 117], [102, 114, 105], [115, 97, 116], [115, 117, 110]]
def pair2 (s : Str) : Int := if s.length = 2 ∧ 48 ≤ (s.getD 0 0).toNat ∧ (s.getD 0 0).toNat ≤ 57 ∧ 48 ≤ (s.getD 1 0).toNat ∧ (s.getD 1 0).toNat ≤ 57 then 10 * ((s.getD 0 0).toNat - 48) + ((s.getD 1 0).toNat - 48) else -1
theorem c_pair (s : Str) : PFun Tryz.prog Gl 203 [.str s] fun r => r = .int .i64 (pair2 s) := by
 (refine PFun.of hT Tryz.func203 rfl fun B hD => ?_; refine pw_norm rfl ?_)
 (repeat' (first | (refine zDr [[0,1,2,3,4,5,6,7,8,9,10]] ?_; refine zDn ?_) | refine zS ?_ | refine zD ?_ | refine po_both ?_ ?_ | refine pwt_both ?_ ?_ | refine pwt_fork ?_ | refine pwt_lin ?_ | (refine po_test rfl rfl rfl rfl zB ?_ ?_ <;> intro hb <;> first | exact zX | refine zDn ?_) | refine zq5 ?_ | refine zq6 ?_ | (refine zT ?_ ?_ <;> intro h <;> first | exact zX | refine zNq ?_)))
 all_goals (refine ret1 _ rfl ?_ rfl; refine iE ?_; unfold pair2; split <;> omega)
instance (s : Str) : ConF Tryz.prog Gl 203 [.str s] True (.int .i64 (pair2 s)) := ⟨e203, fun _ => c_pair s⟩
theorem c_two (s : Str) : PFun Tryz.prog Gl 193 [.str s] fun r => r = .int .i64 (pair2 s) := by
 (refine PFun.of hT Tryz.func193 rfl fun B hD => ?_; refine pw_norm rfl ?_)
 (repeat' (first | (refine zDr [[0,1,2,3,4,5,6,7,8,9,10]] ?_; refine zDn ?_) | refine zS ?_ | refine zD ?_ | refine po_both ?_ ?_ | refine pwt_both ?_ ?_ | refine pwt_fork ?_ | refine pwt_lin ?_ | (refine po_test rfl rfl rfl rfl zB ?_ ?_ <;> intro hb <;> first | exact zX | refine zDn ?_) | refine zq5 ?_ | refine zq6 ?_ | (refine zT ?_ ?_ <;> intro h <;> first | exact zX | refine zNq ?_)))
 all_goals (refine ret1 _ rfl ?_ rfl; refine iE ?_; unfold pair2; split <;> omega)
instance (s : Str) : ConF Tryz.prog Gl 193 [.str s] True (.int .i64 (pair2 s)) := ⟨e193, fun _ => c_two s⟩
theorem pair2_range (s : Str) : -1 ≤ pair2 s ∧ pair2 s ≤ 99 := by unfold pair2; split <;> omega
def hm (l r : Str) (f : Bool) : Int := if f = true ∧ 0 ≤ pair2 l ∧ pair2 l ≤ 23 ∧ 0 ≤ pair2 r ∧ pair2 r ≤ 59 then 60 * pair2 l + pair2 r else -1
def clock (s : Str) : Int := if s = [50, 52, 58, 48, 48] then 1440 else hm (Lib.cut s [58]).1 (Lib.cut s [58]).2.1 (Lib.cut s [58]).2.2
theorem clock_range (s : Str) : -1 ≤ clock s ∧ clock s ≤ 1440 := by unfold clock hm; split <;> (try split) <;> omega
theorem c_clock (hG : GM Gl) (s : Str) (hs : s.length < 4294967281) : PFun Tryz.prog Gl 173 [.str s] fun r => r = .int .i64 (clock s) := by
 (refine PFun.of hT Tryz.func173 rfl fun B hD => ?_; refine pw_norm rfl ?_)
 have hl := pair2_range (Lib.cut s [58]).1
 have hr := pair2_range (Lib.cut s [58]).2.1
 (repeat' (first | refine zS ?_ | refine zq5 ?_ | refine zq6 ?_ | (refine zT ?_ ?_ <;> intro h <;> first | exact zX | refine zNq ?_)))
 all_goals first | (refine ret1 _ rfl ?_ rfl; refine iE ?_; unfold clock hm; simp only [*, if_true, if_false]; try (split <;> simp_all <;> omega)) | (refine pl_op rfl ?_; refine op_conG rfl rfl rfl (by exact inferInstance) (by repeat' (first | exact trivial | assumption | apply And.intro | omega)) (by rfl) (by rfl) ?_)
instance (s : Str) : ConF Tryz.prog Gl 173 [.str s] (GM Gl ∧ s.length < 4294967281) (.int .i64 (clock s)) := ⟨e173, fun h => c_clock h.1 s h.2⟩
end Go.Proofs.YtkaobkjcjodffaaGreatDoor
namespace Go.Proofs.YtkaobkjcjodffaaGreatDoor
open Go Go.Pw
variable {Gl : Glob}
attribute [local irreducible] PW PWL OpP PCalls PWO
theorem c_index1 (L : List Str) (v : Str) (hl : Small L) : PFun Tryz.prog Gl 202 [.sl (L.map .str), .str v] fun r => r = .int .i64 (firstAt (v == ·) L) := by
 (refine PFun.of hT Tryz.func202 rfl fun B hD => ?_; refine pw_norm rfl ?_)
 unfold Small at hl
 (repeat' (first | refine zS ?_ | (refine zT ?_ ?_ <;> intro h <;> first | exact zX | refine zNq ?_)))
 refine pw_for hD (fun i : Nat => [(8, .int .i64 i)]) (fun _ => []) (fun i => i ≤ L.length ∧ ∀ (j : Nat) d, j < i → L[j]? = some d → (v == d) = false) (fun i => L.length - i) 0 ⟨by omega, by intro j c h; omega⟩ 0 rfl (fun _ => rfl) zLes (fun _ => rfl) (fun _ => rfl) zLe ?_
 rintro i ⟨hi, hno⟩
 (repeat' (first | refine zS ?_ | (refine zT ?_ ?_ <;> intro h <;> first | exact zX | refine zNq ?_)))
 ·have hlt : i < L.length := by omega
  refine ret1 _ rfl ?_ rfl
  rw [firstAt_hit hlt (by rename_i h; rw [h, List.getD, List.getElem?_eq_getElem hlt]; simp) hno]
 ·have hlt : i < L.length := by omega
  refine ⟨i + 1, ⟨by omega, fun j d hj hd => ?_⟩, by omega, zLe, zLes⟩
  rcases Nat.lt_succ_iff_lt_or_eq.1 hj with hj | rfl
  ·exact hno j d hj hd
  ·rename_i h; simp only [List.getD, hd, Option.getD_some] at h; simpa using h
 ·refine ret1 _ rfl ?_ rfl
  rw [firstAt_miss fun j x hj => hno j x (by have := (List.getElem?_eq_some_iff.1 hj).1; omega) hj]
instance (L : List Str) (v : Str) : ConF Tryz.prog Gl 202 [.sl (L.map .str), .str v] (Small L) (.int .i64 (firstAt (v == ·) L)) := ⟨e202, fun h => c_index1 L v h⟩
def dayIx (s : Str) : Int := firstAt (s == ·) dayNames
theorem firstAt_range {α : Type} (p : α → Bool) (l : List α) : -1 ≤ firstAt p l ∧ firstAt p l < l.length := by
 unfold firstAt
 split
 ·rename_i i h
  rw [List.findIdx?_eq_some_iff_getElem] at h
  obtain ⟨h, _⟩ := h
  omega
 ·omega
theorem dayIx_range (s : Str) : -1 ≤ dayIx s ∧ dayIx s ≤ 6 := by
 have := firstAt_range (s == ·) dayNames
 have h7 : dayNames.length = 7 := rfl
 unfold dayIx; omega
def GD (Gl : Glob) : Prop := GRow Gl 0 (dayNames.map .str)
theorem c_dayIndex (hD' : GD Gl) (s : Str) : PFun Tryz.prog Gl 172 [.str s] fun r => r = .int .i64 (dayIx s) := by
 (refine PFun.of hT Tryz.func172 rfl fun B hD => ?_; refine pw_norm rfl ?_)
 (repeat' (first | refine zS ?_ | (refine zT ?_ ?_ <;> intro h <;> first | exact zX | refine zNq ?_)))
 (refine pl_op rfl (op_of (v_gslice hT rfl rfl rfl rfl hD' rfl (by decide) (by decide)) ?_); (refine zNp ?_))
 have hs : Small dayNames := by unfold Small; decide
 (repeat' (first | refine zS ?_ | (refine zT ?_ ?_ <;> intro h <;> first | exact zX | refine zNq ?_)))
 exact ret1 _ rfl rfl rfl
instance (s : Str) : ConF Tryz.prog Gl 172 [.str s] (GD Gl) (.int .i64 (dayIx s)) := ⟨e172, fun h => c_dayIndex h s⟩
theorem c_rdays : PFun Tryz.prog Gl 84 [] fun r => r = .sl (dayNames.map .str) := by
 (refine PFun.of hT Tryz.func84 rfl fun B hD => ?_; refine pw_norm rfl ?_)
 (repeat' (first | refine zS ?_ | (refine zT ?_ ?_ <;> intro h <;> first | exact zX | refine zNq ?_)))
 exact ret1 _ rfl rfl rfl
instance : ConF Tryz.prog Gl 84 [] True (.sl (dayNames.map .str)) := ⟨e84, fun _ => c_rdays⟩
theorem c_rday (s : Str) : PFun Tryz.prog Gl 159 [.str s] fun r => r = .int .i64 (dayIx s) := by
 (refine PFun.of hT Tryz.func159 rfl fun B hD => ?_; refine pw_norm rfl ?_)
 (repeat' (first | refine zS ?_ | (refine zT ?_ ?_ <;> intro h <;> first | exact zX | refine zNq ?_)))
 refine pw_for hD (fun i : Nat => [(4, .int .i64 i)]) (fun _ => []) (fun i => i ≤ 7 ∧ ∀ (j : Nat) d, j < i → dayNames[j]? = some d → (s == d) = false) (fun i => 7 - i) 0 ⟨by omega, by intro j c h; omega⟩ 0 rfl (fun _ => rfl) zLes (fun _ => rfl) (fun _ => rfl) zLe ?_
 rintro i ⟨hi, hno⟩
 have h7 : dayNames.length = 7 := rfl
 (repeat' (first | refine zS ?_ | (refine zT ?_ ?_ <;> intro h <;> first | exact zX | refine zNq ?_)))
 ·have hlt : i < dayNames.length := by omega
  refine ret1 _ rfl ?_ rfl
  rename_i h
  rw [dayIx, firstAt_hit hlt (by rw [← h, List.getD, List.getElem?_eq_getElem hlt]; simp) hno]
 ·have hlt : i < dayNames.length := by omega
  refine ⟨i + 1, ⟨by omega, fun j d hj hd => ?_⟩, by omega, zLe, zLes⟩
  rcases Nat.lt_succ_iff_lt_or_eq.1 hj with hj | rfl
  ·exact hno j d hj hd
  ·rename_i h; simp only [List.getD, hd, Option.getD_some] at h; exact beq_eq_false_iff_ne.2 (fun e => h e.symm)
 ·refine ret1 _ rfl ?_ rfl
  rw [dayIx, firstAt_miss fun j x hj => hno j x (by have := (List.getElem?_eq_some_iff.1 hj).1; omega) hj]
instance (s : Str) : ConF Tryz.prog Gl 159 [.str s] True (.int .i64 (dayIx s)) := ⟨e159, fun _ => c_rday s⟩
end Go.Proofs.YtkaobkjcjodffaaGreatDoor
namespace Go.Proofs
open Go.Shelf
def Tryz.lays169_ren : Go.Shelf.Ren := ⟨fun | 169 => 116 | n => n, fun | 70 => 162 | 9 => 9 | 0 => 0 | 72 => 164 | 37 => 107 | 127 => 205 | 3 => 3 | 5 => 5 | n => n, fun | n => n⟩
theorem Tryz.lays169 : Go.Proofs.Lays.n169 Tryz.prog Tryz.lays169_ren := {
 mixed := by kernel_rfl
 f169 := Tryz.func116.trans (congrArg some (by kernel_rfl))
 t0 := Tryz.underlying0
 a0 := Tryz.isAgg0
 z0 := Tryz.sizeOf0
 v0 := Tryz.zeroValue0
 t3 := Tryz.underlying3
 a3 := Tryz.isAgg3
 z3 := Tryz.sizeOf3
 v3 := Tryz.zeroValue3
 t9 := Tryz.underlying9
 a9 := Tryz.isAgg9
 z9 := Tryz.sizeOf9
 v9 := Tryz.zeroValue9
 t37 := Tryz.underlying107
 a37 := Tryz.isAgg107
 z37 := Tryz.sizeOf107
 v37 := Tryz.zeroValue107
 t70 := Tryz.underlying162
 a70 := Tryz.isAgg162
 z70 := Tryz.sizeOf162
 v70 := Tryz.zeroValue162
 t72 := Tryz.underlying164
 a72 := Tryz.isAgg164
 z72 := Tryz.sizeOf164
 v72 := Tryz.zeroValue164
 t127 := Tryz.underlying205
 a127 := Tryz.isAgg205
 z127 := Tryz.sizeOf205
 v127 := Tryz.zeroValue205 }
theorem Tryz.Builder_Extra_169 : Builder.Extra Tryz.prog Tryz.lays169_ren := {
 sizeBuilder := by kernel_rfl
 liesBuilder := by kernel_rfl
 t5 := Tryz.underlying5
 a5 := Tryz.isAgg5
 z5 := Tryz.sizeOf5
 v5 := Tryz.zeroValue5
 infoByte := by kernel_rfl
 cellsByte := by kernel_rfl
 sizeByte := by kernel_rfl
 neB5 := by decide }
def Tryz.lays156_ren : Go.Shelf.Ren := ⟨fun | 156 => 114 | 165 => 155 | 166 => 113 | 169 => 116 | 240 => 154 | 241 => 191 | 276 => 190 | 277 => 216 | n => n, fun | 31 => 49 | 9 => 9 | 3 => 3 | 4 => 4 | 0 => 0 | 20 => 20 | 72 => 164 | 76 => 167 | 70 => 162 | 37 => 107 | 75 => 166 | 127 => 205 | 164 => 233 | 5 => 5 | 80 => 117 | n => n, fun | n => n⟩
theorem Tryz.lays156 : Go.Proofs.Lays.n156 Tryz.prog Tryz.lays156_ren := {
 mixed := by kernel_rfl
 f156 := Tryz.func114.trans (congrArg some (by kernel_rfl))
 f165 := Tryz.func155.trans (congrArg some (by kernel_rfl))
 f166 := Tryz.func113.trans (congrArg some (by kernel_rfl))
 f169 := Tryz.func116.trans (congrArg some (by kernel_rfl))
 f240 := Tryz.func154.trans (congrArg some (by kernel_rfl))
 f241 := Tryz.func191.trans (congrArg some (by kernel_rfl))
 f276 := Tryz.func190.trans (congrArg some (by kernel_rfl))
 f277 := Tryz.func216.trans (congrArg some (by kernel_rfl))
 t0 := Tryz.underlying0
 a0 := Tryz.isAgg0
 z0 := Tryz.sizeOf0
 v0 := Tryz.zeroValue0
 t3 := Tryz.underlying3
 a3 := Tryz.isAgg3
 z3 := Tryz.sizeOf3
 v3 := Tryz.zeroValue3
 t4 := Tryz.underlying4
 a4 := Tryz.isAgg4
 z4 := Tryz.sizeOf4
 v4 := Tryz.zeroValue4
 t9 := Tryz.underlying9
 a9 := Tryz.isAgg9
 z9 := Tryz.sizeOf9
 v9 := Tryz.zeroValue9
 t20 := Tryz.underlying20
 a20 := Tryz.isAgg20
 z20 := Tryz.sizeOf20
 v20 := Tryz.zeroValue20
 t31 := Tryz.underlying49
 a31 := Tryz.isAgg49
 z31 := Tryz.sizeOf49
 v31 := Tryz.zeroValue49
 t37 := Tryz.underlying107
 a37 := Tryz.isAgg107
 z37 := Tryz.sizeOf107
 v37 := Tryz.zeroValue107
 t70 := Tryz.underlying162
 a70 := Tryz.isAgg162
 z70 := Tryz.sizeOf162
 v70 := Tryz.zeroValue162
 t72 := Tryz.underlying164
 a72 := Tryz.isAgg164
 z72 := Tryz.sizeOf164
 v72 := Tryz.zeroValue164
 t75 := Tryz.underlying166
 a75 := Tryz.isAgg166
 z75 := Tryz.sizeOf166
 v75 := Tryz.zeroValue166
 t76 := Tryz.underlying167
 a76 := Tryz.isAgg167
 z76 := Tryz.sizeOf167
 v76 := Tryz.zeroValue167
 t127 := Tryz.underlying205
 a127 := Tryz.isAgg205
 z127 := Tryz.sizeOf205
 v127 := Tryz.zeroValue205
 t164 := Tryz.underlying233
 a164 := Tryz.isAgg233
 z164 := Tryz.sizeOf233
 v164 := Tryz.zeroValue233 }
theorem Tryz.Builder_Extra_156 : Builder.Extra Tryz.prog Tryz.lays156_ren := {
 sizeBuilder := by kernel_rfl
 liesBuilder := by kernel_rfl
 t5 := Tryz.underlying5
 a5 := Tryz.isAgg5
 z5 := Tryz.sizeOf5
 v5 := Tryz.zeroValue5
 infoByte := by kernel_rfl
 cellsByte := by kernel_rfl
 sizeByte := by kernel_rfl
 neB5 := by decide }
open Go.RowKit in
theorem Tryz.strings_Join (bk o c : Nat) (xs : List ByteArray) (sep : ByteArray) (w : World) (hcells : ∀ (j : Nat) x, xs[j]? = some x → w.cell? ⟨bk, o + j, none⟩ = some (.string x)) (hbk : bk < w.heap.size) (hN : xs.length ≤ 140737488355328) (hcap : xs.length ≤ c) (hlen : (Lib.join (xs.map (·.data.toList)) sep.data.toList).length ≤ 140737488355328) :
  Calls Tryz.prog 114 #[.slice (some ⟨bk, o, none⟩) xs.length c, .string sep] w fun e w' => e = .returned (.string ⟨(Lib.join (xs.map (·.data.toList)) sep.data.toList).toArray⟩) ∧ Below w.heap.size w w' := Any.strings_Join Tryz.lays156 Tryz.Builder_Extra_156 bk o c xs sep w hcells hbk hN hcap hlen
open Go.RowKit in
theorem Tryz.Builder_String_any_k (B b : Nat) (l : List UInt8) (w : World) (h : Lib.IsBuilderF 164 5 B b (Lib.byteCells l) w) (hBw : B ≤ w.heap.size) :
  Calls Tryz.prog 116 #[.pointer (some ⟨b, 0, none⟩)] w fun e w' => e = .returned (.string ⟨l.toArray⟩) ∧ (Lib.IsBuilderF 164 5 B b (Lib.byteCells l) w' ∧ Below B w w' ∧ Lib.OthersKept 5 (some b) w w') := Any.Builder_String_any_k Tryz.lays169 Tryz.Builder_Extra_169 B b l w h hBw
def Tryz.laysM284_ren : Go.Shelf.Ren := ⟨fun | 284 => 187 | 129 => 212 | 317 => 211 | 318 => 213 | n => n, fun | 53 => 138 | 3 => 3 | 212 => 248 | 0 => 0 | 4 => 4 | 46 => 115 | 5 => 5 | 9 => 9 | n => n, fun | 17 => 1 | n => n⟩
theorem Tryz.laysM284 : Go.Proofs.LaysM.n284 Tryz.prog Tryz.laysM284_ren := {
 mixed := by kernel_rfl
 f129 := Tryz.func212.trans (congrArg some (by kernel_rfl))
 f284 := Tryz.func187.trans (congrArg some (by kernel_rfl))
 f317 := Tryz.func211.trans (congrArg some (by kernel_rfl))
 f318 := Tryz.func213.trans (congrArg some (by kernel_rfl))
 t0 := Tryz.underlying0
 a0 := Tryz.isAgg0
 z0 := Tryz.sizeOf0
 v0 := Tryz.zeroValue0
 t3 := Tryz.underlying3
 a3 := Tryz.isAgg3
 z3 := Tryz.sizeOf3
 v3 := Tryz.zeroValue3
 t4 := Tryz.underlying4
 a4 := Tryz.isAgg4
 z4 := Tryz.sizeOf4
 v4 := Tryz.zeroValue4
 t5 := Tryz.underlying5
 a5 := Tryz.isAgg5
 z5 := Tryz.sizeOf5
 v5 := Tryz.zeroValue5
 t9 := Tryz.underlying9
 a9 := Tryz.isAgg9
 z9 := Tryz.sizeOf9
 v9 := Tryz.zeroValue9
 t46 := Tryz.underlying115
 a46 := Tryz.isAgg115
 z46 := Tryz.sizeOf115
 v46 := Tryz.zeroValue115
 t53 := Tryz.underlying138
 a53 := Tryz.isAgg138
 z53 := Tryz.sizeOf138
 v53 := Tryz.zeroValue138
 t212 := Tryz.underlying248
 a212 := Tryz.isAgg248
 z212 := Tryz.sizeOf248
 v212 := Tryz.zeroValue248
 g17 := by kernel_rfl
 i0 := by kernel_rfl
 i3 := by kernel_rfl
 i4 := by kernel_rfl
 i5 := by kernel_rfl
 i9 := by kernel_rfl
 i46 := by kernel_rfl
 i53 := by kernel_rfl
 i212 := by kernel_rfl
 m17 := by kernel_rfl }
open Go.Lib in
theorem Tryz.internal_strconv_numDigits (u : Nat) (h1 : 1 ≤ u) (h2 : u < 18446744073709551616) (w : World) (htab : Lib.TabIs Tryz.prog w "internal/strconv.uint64pow10" .u64 Lib.pow10Tab) :
  Calls Tryz.prog 187 #[.int .u64 u] w fun e w' => e = .returned (.int .i64 (Lib.nDigits u)) ∧ w' = w := Any.internal_strconv_numDigits Tryz.laysM284 u h1 h2 w htab
def Tryz.laysM171_ren : Go.Shelf.Ren := ⟨fun | 171 => 64 | 243 => 112 | 246 => 153 | 283 => 186 | 284 => 187 | 285 => 188 | 286 => 189 | 129 => 212 | 317 => 211 | 318 => 213 | 319 => 214 | 320 => 215 | 337 => 227 | 338 => 228 | n => n, fun | 3 => 3 | 9 => 9 | 2 => 2 | 4 => 4 | 171 => 228 | 0 => 0 | 53 => 138 | 37 => 107 | 5 => 5 | 173 => 231 | 212 => 248 | 51 => 79 | 20 => 20 | 213 => 249 | 46 => 115 | 232 => 270 | 233 => 271 | n => n, fun | 17 => 1 | 18 => 5 | 19 => 6 | n => n⟩
theorem Tryz.laysM171 : Go.Proofs.LaysM.n171 Tryz.prog Tryz.laysM171_ren := {
 mixed := by kernel_rfl
 f129 := Tryz.func212.trans (congrArg some (by kernel_rfl))
 f171 := Tryz.func64.trans (congrArg some (by kernel_rfl))
 f243 := Tryz.func112.trans (congrArg some (by kernel_rfl))
 f246 := Tryz.func153.trans (congrArg some (by kernel_rfl))
 f283 := Tryz.func186.trans (congrArg some (by kernel_rfl))
 f284 := Tryz.func187.trans (congrArg some (by kernel_rfl))
 f285 := Tryz.func188.trans (congrArg some (by kernel_rfl))
 f286 := Tryz.func189.trans (congrArg some (by kernel_rfl))
 f317 := Tryz.func211.trans (congrArg some (by kernel_rfl))
 f318 := Tryz.func213.trans (congrArg some (by kernel_rfl))
 f319 := Tryz.func214.trans (congrArg some (by kernel_rfl))
 f320 := Tryz.func215.trans (congrArg some (by kernel_rfl))
 f337 := Tryz.func227.trans (congrArg some (by kernel_rfl))
 f338 := Tryz.func228.trans (congrArg some (by kernel_rfl))
 t0 := Tryz.underlying0
 a0 := Tryz.isAgg0
 z0 := Tryz.sizeOf0
 v0 := Tryz.zeroValue0
 t2 := Tryz.underlying2
 a2 := Tryz.isAgg2
 z2 := Tryz.sizeOf2
 v2 := Tryz.zeroValue2
 t3 := Tryz.underlying3
 a3 := Tryz.isAgg3
 z3 := Tryz.sizeOf3
 v3 := Tryz.zeroValue3
 t4 := Tryz.underlying4
 a4 := Tryz.isAgg4
 z4 := Tryz.sizeOf4
 v4 := Tryz.zeroValue4
 t5 := Tryz.underlying5
 a5 := Tryz.isAgg5
 z5 := Tryz.sizeOf5
 v5 := Tryz.zeroValue5
 t9 := Tryz.underlying9
 a9 := Tryz.isAgg9
 z9 := Tryz.sizeOf9
 v9 := Tryz.zeroValue9
 t20 := Tryz.underlying20
 a20 := Tryz.isAgg20
 z20 := Tryz.sizeOf20
 v20 := Tryz.zeroValue20
 t37 := Tryz.underlying107
 a37 := Tryz.isAgg107
 z37 := Tryz.sizeOf107
 v37 := Tryz.zeroValue107
 t46 := Tryz.underlying115
 a46 := Tryz.isAgg115
 z46 := Tryz.sizeOf115
 v46 := Tryz.zeroValue115
 t51 := Tryz.underlying79
 a51 := Tryz.isAgg79
 z51 := Tryz.sizeOf79
 v51 := Tryz.zeroValue79
 t53 := Tryz.underlying138
 a53 := Tryz.isAgg138
 z53 := Tryz.sizeOf138
 v53 := Tryz.zeroValue138
 t171 := Tryz.underlying228
 a171 := Tryz.isAgg228
 z171 := Tryz.sizeOf228
 v171 := Tryz.zeroValue228
 t173 := Tryz.underlying231
 a173 := Tryz.isAgg231
 z173 := Tryz.sizeOf231
 v173 := Tryz.zeroValue231
 t212 := Tryz.underlying248
 a212 := Tryz.isAgg248
 z212 := Tryz.sizeOf248
 v212 := Tryz.zeroValue248
 t213 := Tryz.underlying249
 a213 := Tryz.isAgg249
 z213 := Tryz.sizeOf249
 t232 := Tryz.underlying270
 a232 := Tryz.isAgg270
 z232 := Tryz.sizeOf270
 v232 := Tryz.zeroValue270
 t233 := Tryz.underlying271
 a233 := Tryz.isAgg271
 z233 := Tryz.sizeOf271
 v233 := Tryz.zeroValue271
 g17 := by kernel_rfl
 g18 := by kernel_rfl
 g19 := by kernel_rfl
 i0 := by kernel_rfl
 i2 := by kernel_rfl
 i3 := by kernel_rfl
 i4 := by kernel_rfl
 i5 := by kernel_rfl
 i9 := by kernel_rfl
 i20 := by kernel_rfl
 i37 := by kernel_rfl
 i46 := by kernel_rfl
 i51 := by kernel_rfl
 i53 := by kernel_rfl
 i171 := by kernel_rfl
 i173 := by kernel_rfl
 i212 := by kernel_rfl
 i232 := by kernel_rfl
 i233 := by kernel_rfl
 m17 := by kernel_rfl
 m18 := by kernel_rfl
 m19 := by kernel_rfl }
open Go.RowKit Go.Sort Go.Lib in
theorem Tryz.strconv_Itoa (n : Int) (h0 : -9223372036854775808 ≤ n) (h1 : n ≤ 9223372036854775807) (w : World) (htab : Lib.TabIs Tryz.prog w "internal/strconv.uint64pow10" .u64 Lib.pow10Tab) :
  Calls Tryz.prog 64 #[.int .i64 n] w fun e w' => e = .returned (.string ⟨(Lib.itoa n).toArray⟩) ∧ ∃ k os, w' = grow (w.drewN k) os := Any.strconv_Itoa Tryz.laysM171 n h0 h1 w htab
def Tryz.lays166_ren : Go.Shelf.Ren := ⟨fun | 166 => 113 | 240 => 154 | 276 => 190 | n => n, fun | 20 => 20 | 70 => 162 | 72 => 164 | 37 => 107 | 75 => 166 | 80 => 117 | 164 => 233 | 127 => 205 | n => n, fun n => n⟩
theorem Tryz.lays166 : Go.Proofs.Lays.n166 Tryz.prog Tryz.lays166_ren := {
 mixed := by kernel_rfl
 f166 := Tryz.func113.trans (congrArg some (by kernel_rfl))
 f240 := Tryz.func154.trans (congrArg some (by kernel_rfl))
 f276 := Tryz.func190.trans (congrArg some (by kernel_rfl))
 t0 := Tryz.underlying0
 a0 := Tryz.isAgg0
 z0 := Tryz.sizeOf0
 v0 := Tryz.zeroValue0
 t3 := Tryz.underlying3
 a3 := Tryz.isAgg3
 z3 := Tryz.sizeOf3
 v3 := Tryz.zeroValue3
 t4 := Tryz.underlying4
 a4 := Tryz.isAgg4
 z4 := Tryz.sizeOf4
 v4 := Tryz.zeroValue4
 t9 := Tryz.underlying9
 a9 := Tryz.isAgg9
 z9 := Tryz.sizeOf9
 v9 := Tryz.zeroValue9
 t20 := Tryz.underlying20
 a20 := Tryz.isAgg20
 z20 := Tryz.sizeOf20
 v20 := Tryz.zeroValue20
 t37 := Tryz.underlying107
 a37 := Tryz.isAgg107
 z37 := Tryz.sizeOf107
 v37 := Tryz.zeroValue107
 t70 := Tryz.underlying162
 a70 := Tryz.isAgg162
 z70 := Tryz.sizeOf162
 v70 := Tryz.zeroValue162
 t72 := Tryz.underlying164
 a72 := Tryz.isAgg164
 z72 := Tryz.sizeOf164
 v72 := Tryz.zeroValue164
 t75 := Tryz.underlying166
 a75 := Tryz.isAgg166
 z75 := Tryz.sizeOf166
 v75 := Tryz.zeroValue166
 t164 := Tryz.underlying233
 a164 := Tryz.isAgg233
 z164 := Tryz.sizeOf233
 v164 := Tryz.zeroValue233
}
def Tryz.lays167_ren : Go.Shelf.Ren := ⟨fun | 167 => 115 | 240 => 154 | 276 => 190 | n => n, fun | 20 => 20 | 70 => 162 | 72 => 164 | 37 => 107 | 75 => 166 | 80 => 117 | 164 => 233 | 127 => 205 | n => n, fun n => n⟩
theorem Tryz.lays167 : Go.Proofs.Lays.n167 Tryz.prog Tryz.lays167_ren := {
 mixed := by kernel_rfl
 f167 := Tryz.func115.trans (congrArg some (by kernel_rfl))
 f240 := Tryz.func154.trans (congrArg some (by kernel_rfl))
 f276 := Tryz.func190.trans (congrArg some (by kernel_rfl))
 t0 := Tryz.underlying0
 a0 := Tryz.isAgg0
 z0 := Tryz.sizeOf0
 v0 := Tryz.zeroValue0
 t4 := Tryz.underlying4
 a4 := Tryz.isAgg4
 z4 := Tryz.sizeOf4
 v4 := Tryz.zeroValue4
 t5 := Tryz.underlying5
 a5 := Tryz.isAgg5
 z5 := Tryz.sizeOf5
 v5 := Tryz.zeroValue5
 t9 := Tryz.underlying9
 a9 := Tryz.isAgg9
 z9 := Tryz.sizeOf9
 v9 := Tryz.zeroValue9
 t20 := Tryz.underlying20
 a20 := Tryz.isAgg20
 z20 := Tryz.sizeOf20
 v20 := Tryz.zeroValue20
 t37 := Tryz.underlying107
 a37 := Tryz.isAgg107
 z37 := Tryz.sizeOf107
 v37 := Tryz.zeroValue107
 t70 := Tryz.underlying162
 a70 := Tryz.isAgg162
 z70 := Tryz.sizeOf162
 v70 := Tryz.zeroValue162
 t72 := Tryz.underlying164
 a72 := Tryz.isAgg164
 z72 := Tryz.sizeOf164
 v72 := Tryz.zeroValue164
 t75 := Tryz.underlying166
 a75 := Tryz.isAgg166
 z75 := Tryz.sizeOf166
 v75 := Tryz.zeroValue166
 t164 := Tryz.underlying233
 a164 := Tryz.isAgg233
 z164 := Tryz.sizeOf233
 v164 := Tryz.zeroValue233
}
theorem Tryz.Builder_Extra_166 : Builder.Extra Tryz.prog Tryz.lays166_ren := {
 sizeBuilder := by kernel_rfl
 liesBuilder := by kernel_rfl
 t5 := Tryz.underlying5
 a5 := Tryz.isAgg5
 z5 := Tryz.sizeOf5
 v5 := Tryz.zeroValue5
 infoByte := by kernel_rfl
 cellsByte := by kernel_rfl
 sizeByte := by kernel_rfl
 neB5 := by decide 
}
theorem Tryz.Builder_Extra_167 : Builder.Extra Tryz.prog Tryz.lays167_ren := {
 sizeBuilder := by kernel_rfl
 liesBuilder := by kernel_rfl
 t5 := Tryz.underlying5
 a5 := Tryz.isAgg5
 z5 := Tryz.sizeOf5
 v5 := Tryz.zeroValue5
 infoByte := by kernel_rfl
 cellsByte := by kernel_rfl
 sizeByte := by kernel_rfl
 neB5 := by decide 
}
open Go.RowKit in
theorem Tryz.Builder_WriteByte_k (B b : Nat) (bs : List Value) (c : Int) (w : World) (h : Lib.IsBuilderF 164 5 B b bs w) (hlen : bs.length + 1 ≤ 140737488355328) (hBw : B ≤ w.heap.size) :
  Calls Tryz.prog 115 #[.pointer (some ⟨b, 0, none⟩), .int .u8 c] w fun e w' => e = .returned .nilIface ∧ (Lib.BuilderAtF 164 5 B b (.pointer (some ⟨b, 0, none⟩)) (bs ++ [.int .u8 c]) w' ∧ Below B w w' ∧ Lib.OthersKept 5 (some b) w w') := Any.Builder_WriteByte_k Tryz.lays167 Tryz.Builder_Extra_167 B b bs c w h hlen hBw
open Go.RowKit in
theorem Tryz.Builder_WriteString_k (B b : Nat) (bs : List Value) (s : ByteArray) (w : World) (h : Lib.IsBuilderF 164 5 B b bs w) (hlen : bs.length + s.size ≤ 140737488355328) (hBw : B ≤ w.heap.size) :
  Calls Tryz.prog 113 #[.pointer (some ⟨b, 0, none⟩), .string s] w fun e w' => e = .returned (.tuple #[.int .i64 s.size, .nilIface]) ∧ (Lib.BuilderAtF 164 5 B b (.pointer (some ⟨b, 0, none⟩)) (bs ++ Lib.strCells s) w' ∧ Below B w w' ∧ Lib.OthersKept 5 (some b) w w') := Any.Builder_WriteString_k Tryz.lays166 Tryz.Builder_Extra_166 B b bs s w h hlen hBw
end Go.Proofs
namespace Go.Proofs.YtkaobkjcjodffaaGreatDoor
open Go Go.Pw Go.RowKit
variable {Gl : Glob}
attribute [local irreducible] PW PWL OpP PCalls PWO
def GT (Gl : Glob) : Prop := ∀ w, GlobW Gl w → Lib.TabIs Tryz.prog w "internal/strconv.uint64pow10" .u64 Lib.pow10Tab
theorem itoa_nat (n : Nat) : Lib.itoa (n : Int) = dec n := by
 unfold Lib.itoa
 rw [if_neg (by omega)]; rfl
theorem c78 (hG : GT Gl) (n : Nat) (hn : n < 10000) : PFun Tryz.prog Gl 64 [.int .i64 n] fun r => r = .str (dec n) := by
 refine PFun.lib rfl fun w hw => ?_
 refine (Tryz.strconv_Itoa n (by omega) (by omega) w (hG w hw)).mono ?_
 rintro e w' ⟨rfl, k, os, rfl⟩
 exact ⟨.str (dec n), by rw [itoa_nat]; rfl, rfl, rfl, Lib.below_grow _ _ (Nat.le_refl _) _ _⟩
theorem nDig3 {u : Nat} (h1 : 100 ≤ u) (h2 : u < 1000) : Lib.nDigits u = 3 := by
 rw [Lib.nDigits, dif_neg (by omega), Lib.nDigits, dif_neg (by omega), Lib.nDigits, dif_pos (by omega)]
theorem c150 (hG : GT Gl) (u : Nat) (h1 : 100 ≤ u) (h2 : u < 1000) : PFun Tryz.prog Gl 187 [.int .u64 u] fun r => r = .int .i64 3 := by
 refine PFun.lib rfl fun w hw => ?_
 refine (Tryz.internal_strconv_numDigits u (by omega) (by omega) w (hG w hw)).mono ?_
 rintro e w' ⟨rfl, rfl⟩
 exact ⟨.int .i64 3, by rw [nDig3 h1 h2]; rfl, rfl, rfl, Below.refl _ _⟩
def s36 : Str := [48, 49, 50, 51, 52, 53, 54, 55, 56, 57, 97, 98, 99, 100, 101, 102, 103, 104, 105, 106, 107, 108, 109, 110, 111, 112, 113, 114, 115, 116, 117, 118, 119, 120, 121, 122]
def s200 : Str := [48, 48, 48, 49, 48, 50, 48, 51, 48, 52, 48, 53, 48, 54, 48, 55, 48, 56, 48, 57, 49, 48, 49, 49, 49, 50, 49, 51, 49, 52, 49, 53, 49, 54, 49, 55, 49, 56, 49, 57, 50, 48, 50, 49, 50, 50, 50, 51, 50, 52, 50, 53, 50, 54, 50, 55, 50, 56, 50, 57, 51, 48, 51, 49, 51, 50, 51, 51, 51, 52, 51, 53, 51, 54, 51, 55, 51, 56, 51, 57, 52, 48, 52, 49, 52, 50, 52, 51, 52, 52, 52, 53, 52, 54, 52, 55, 52, 56, 52, 57, 53, 48, 53, 49, 53, 50, 53, 51, 53, 52, 53, 53, 53, 54, 53, 55, 53, 56, 53, 57, 54, 48, 54, 49, 54, 50, 54, 51, 54, 52, 54, 53, 54, 54, 54, 55, 54, 56, 54, 57, 55, 48, 55, 49, 55, 50, 55, 51, 55, 52, 55, 53, 55, 54, 55, 55, 55, 56, 55, 57, 56, 48, 56, 49, 56, 50, 56, 51, 56, 52, 56, 53, 56, 54, 56, 55, 56, 56, 56, 57, 57, 48, 57, 49, 57, 50, 57, 51, 57, 52, 57, 53, 57, 54, 57, 55, 57, 56, 57, 57]
theorem s36_at : ∀ i : Fin 10, (s36.take (i.val + 1)).drop i.val = [UInt8.ofNat (48 + i.val)] := by decide
theorem s200_sub : ∀ i : Fin 100, (s200.take (i.val * 2 + 2)).drop (i.val * 2) = [UInt8.ofNat (48 + i.val / 10), UInt8.ofNat (48 + i.val % 10)] := by decide +kernel
theorem s200_at0 : ∀ i : Fin 100, s200[2 * i.val]? = some (UInt8.ofNat (48 + i.val / 10)) := by decide +kernel
theorem s200_at1 : ∀ i : Fin 100, s200[2 * i.val + 1]? = some (UInt8.ofNat (48 + i.val % 10)) := by decide +kernel
theorem dec_two {i : Nat} (h1 : ¬ i < 10) (h2 : i < 100) : dec i = [UInt8.ofNat (48 + i / 10), UInt8.ofNat (48 + i % 10)] := by rw [dec_ge h1, dec_lt (by omega)]; rfl
theorem dec_three {i : Nat} (h1 : 100 ≤ i) (h2 : i < 1000) : dec i = [UInt8.ofNat (48 + i / 100), UInt8.ofNat (48 + i % 100 / 10), UInt8.ofNat (48 + i % 100 % 10)] := by
 rw [dec_ge (by omega), dec_two (by omega) (by omega)]
 rw [show i / 10 / 10 = i / 100 by omega, show i / 10 % 10 = i % 100 / 10 by omega, show i % 10 = i % 100 % 10 by omega]
 rfl
theorem c149 (i : Nat) (hi : i < 100) : PFun Tryz.prog Gl 186 [.int .i64 i] fun r => r = .str (dec i) := by
 refine PFun.of hT Tryz.func186 rfl fun B hD => ?_
 refine pw_norm rfl ?_
 (refine zGo ?_)
 refine pw_cond rfl (fun h => ?_) (fun h => ?_)
 ·have h10 : i < 10 := by simp only [decide_eq_true_eq] at h; omega
  (refine zGo ?_)
  (refine pl_op rfl (op_of (v_substr (s := s36) (l := (i : Int)) (h := ((i + 1 : Nat) : Int)) hT rfl rfl rfl rfl rfl (by omega) (by omega) (by show ((i + 1 : Nat) : Int) ≤ 36; omega)) ?_); (refine zNp ?_))
  (refine zGo ?_)
  refine ret1 _ rfl ?_ rfl
  rw [dec_lt h10, ← s36_at ⟨i, h10⟩]; rfl
 ·have h10 : ¬ i < 10 := by simp only [decide_eq_false_iff_not] at h; omega
  (refine zGo ?_)
  (refine pl_op rfl (op_of (v_substr (s := s200) (l := (i : Int) * 2) (h := (i : Int) * 2 + 2) hT rfl rfl rfl rfl rfl (by omega) (by omega) (by show (i : Int) * 2 + 2 ≤ 200; omega)) ?_); (refine zNp ?_))
  (refine zGo ?_)
  refine ret1 _ rfl ?_ rfl
  rw [dec_two h10 hi, ← s200_sub ⟨i, hi⟩]; rfl
def zeros (n : Nat) : Str := List.replicate n 0
theorem c151 (u : Nat) (h1 : 100 ≤ u) (h2 : u < 1000) : PCalls Tryz.prog Gl 188 [.msl 1 0 0 3 24, .int .u64 u] [.box ((zeros 24).map eByte)] fun r s => r = .tup [] ∧ ∃ x0 x1 x2 : UInt8, dec u = [x0, x1, x2] ∧ s = [.box (([x0, x1, x2] ++ zeros 21 : Str).map eByte)] := by
 refine PCalls.of hT Tryz.func188 rfl 1 (Nat.le_refl _) fun B hD => ?_
 refine pw_boxArr 0 (cs := (zeros 24).map eByte) rfl (bytes_cell _) (bytes_refs _) (by unfold maxLen; decide) ?_
 refine pw_norm rfl ?_
 rw [dec_three h1 h2]
 obtain ⟨q, hq⟩ : ∃ q, q = u % 100 := ⟨_, rfl⟩
 obtain ⟨d, hd⟩ : ∃ d, d = u / 100 := ⟨_, rfl⟩
 rw [← hq, ← hd]
 have hql : q < 100 := by omega
 have hdl : d < 10 := by omega
 obtain ⟨x0, e0⟩ : ∃ x, x = UInt8.ofNat (48 + q / 10) := ⟨_, rfl⟩
 obtain ⟨x1, e1⟩ : ∃ x, x = UInt8.ofNat (48 + q % 10) := ⟨_, rfl⟩
 have g0 : s200[2 * q]? = some x0 := by rw [e0]; exact s200_at0 ⟨q, hql⟩
 have g1 : s200[2 * q + 1]? = some x1 := by rw [e1]; exact s200_at1 ⟨q, hql⟩
 rw [← e0, ← e1]
 (refine zGo ?_)
 refine pw_for hD (fun _ : Unit => [(1, .int .u64 u), (4, .int .i64 3)]) (fun _ => [.arr 1 ((zeros 24).map eByte) 24]) (fun _ => True) (fun _ => 0) () trivial 1 rfl (fun _ => rfl) zLes (fun _ => rfl) (fun _ => rfl) zLe ?_
 intro _ _
 (refine zGo ?_)
 (refine pl_op rfl (op_of (v_conv (c := (u : Int)) hT rfl rfl rfl rfl (IntWalk.u32_in _ (by omega))) ?_); (refine zNp ?_))
 (refine zGo ?_)
 (refine pl_op rfl (op_of (v_rem (c := (q : Int)) rfl rfl rfl (by decide) (by rw [Int.tmod_eq_emod_of_nonneg (by omega)]; omega)) ?_); (refine zNp ?_))
 (refine pl_op rfl (op_of (v_arith (c := ((2 * q : Nat) : Int)) rfl rfl rfl rfl ((IntWalk.u32_in _ (by omega)).trans (by omega))) ?_); (refine zNp ?_))
 (refine zGo ?_)
 (refine pl_op rfl (op_of (v_quo (c := (d : Int)) rfl rfl rfl (by decide) (by rw [Int.tdiv_eq_ediv_of_nonneg (by omega), IntWalk.u32_in _ (by omega)]; omega)) ?_); (refine zNp ?_))
 (refine zGo ?_)
 refine zDr [[0,1,2,3,4,5,6,7,8,9,10,11],[12],[13],[14]] ?_
 (refine zDgo ?_)
 (refine po_val rfl rfl (v_arith (c := ((2 * q + 1 : Nat) : Int)) rfl rfl rfl rfl ((IntWalk.u32_in _ (by omega)).trans (by omega))) ?_; refine zDn ?_)
 (refine zDgo ?_)
 (refine po_val rfl rfl (v_indexs (c := x1) hT rfl rfl rfl rfl (by omega) g1) ?_; refine zDn ?_)
 (refine zDgo ?_)
 (refine po_val rfl rfl (v_indexs (c := x0) hT rfl rfl rfl rfl (by omega) g0) ?_; refine zDn ?_)
 (refine zDgo ?_)
 (refine po_val rfl rfl (v_indexm hT rfl rfl rfl rfl rfl (by decide) (by decide) (by decide)) ?_; refine zDn ?_)
 (refine zDgo ?_)
 (refine po_step rfl rfl (op_storeE' (x0 := eByte 0) (x1 := eByte x1) (xs' := (([0, 0, x1] ++ zeros 21 : Str)).map eByte) hT rfl rfl rfl rfl rfl (by decide) (rfl) rfl rfl rfl rfl (Nat.le_of_ble_eq_true rfl) rfl (rfl) ⟨zLok, ?_⟩); refine zDn ?_)
 (refine zDgo ?_)
 (refine po_val rfl rfl (v_indexm hT rfl rfl rfl rfl rfl (by decide) (by decide) (by decide)) ?_; refine zDn ?_)
 (refine zDgo ?_)
 (refine po_step rfl rfl (op_storeE' (x0 := eByte 0) (x1 := eByte x0) (xs' := (([0, x0, x1] ++ zeros 21 : Str)).map eByte) hT rfl rfl rfl rfl rfl (by decide) (rfl) rfl rfl rfl rfl (Nat.le_of_ble_eq_true rfl) rfl (rfl) ⟨zLok, ?_⟩); refine zDn ?_)
 (refine zDgo ?_)
 (refine zGo ?_)
 (refine pl_op rfl (op_of (v_arith (c := ((48 + d : Nat) : Int)) rfl rfl rfl rfl ((IntWalk.u32_in _ (by omega)).trans (by omega))) ?_); (refine zNp ?_))
 (refine zGo ?_)
 (refine pl_op rfl (op_of (v_conv (c := ((UInt8.ofNat (48 + d)).toNat : Int)) hT rfl rfl rfl rfl (by rw [← dig_wrap d hdl]; congr 1)) ?_); (refine zNp ?_))
 (refine zGo ?_)
 (refine pl_op rfl (op_of (v_indexm hT rfl rfl rfl rfl rfl (by decide) (by decide) (by decide)) ?_); (refine zNp ?_))
 (refine zGo ?_)
 (refine pl_op rfl (op_storeE' (x0 := eByte 0) (x1 := eByte (UInt8.ofNat (48 + d))) (xs' := (([UInt8.ofNat (48 + d), x0, x1] ++ zeros 21 : Str)).map eByte) hT rfl rfl rfl rfl rfl (by decide) (rfl) rfl rfl rfl rfl (Nat.le_of_ble_eq_true rfl) rfl (rfl) ?_); (refine zNp ?_))
 refine pl_arrBox 0 (cs := ([UInt8.ofNat (48 + d), x0, x1] ++ zeros 21 : Str).map eByte) rfl rfl (by decide) (bytes_cell _) ?_
 (refine zNp ?_)
 (refine zGo ?_)
 exact ⟨_, _, _, rfl, ⟨rfl, _, _, _, rfl, rfl⟩, .inr (.inl rfl), ⟨.inr (.inl rfl), trivial⟩, rfl, rfl⟩
end Go.Proofs.YtkaobkjcjodffaaGreatDoor
namespace Go.Proofs.YtkaobkjcjodffaaGreatDoor
open Go Go.Pw
theorem e26 : Enters Tryz.prog 26 := Enters.of Tryz.func26 (by kernel_rfl) rfl
theorem e54 : Enters Tryz.prog 54 := Enters.of Tryz.func54 (by kernel_rfl) rfl
theorem e107 : Enters Tryz.prog 107 := Enters.of Tryz.func107 (by kernel_rfl) rfl
end Go.Proofs.YtkaobkjcjodffaaGreatDoor
