/-
 The reference's Join.
 Lists of ranges: canonical ones with the same members are equal; merging a sorted list makes one.
 Layings of library functions at this seat: slices.SortFunc and slices.Grow at ranges; printed by a program of mine.
-/
import Derived.Test.YtkaobkjcjodffaaGreatDoorBE4
import Derived.Test.YtkaobkjcjodffaaGreatDoorBB6
import Derived.Test.YtkaobkjcjodffaaGreatDoorAPwGlob
import Derived.Shelf.SlSortCmp.WholeK
import Derived.Shelf.Spec.SlicesGrow
import Derived.Test.YtkaobkjcjodffaaGreatDoorProg
set_option maxHeartbeats 20000000
set_option maxRecDepth 100000
namespace Go.Proofs.YtkaobkjcjodffaaGreatDoor
open Go Go.Pw
variable {Gl : Glob}
attribute [local irreducible] PW PWL OpP PCalls PWO
theorem str_at0 (w : List Str) (h : 0 < w.length) : (w.map PV.str)[0]? = some (.str (w.getD 0 [])) := by
 rw [List.getElem?_map, List.getD, List.getElem?_eq_getElem h]; rfl
theorem parts_zero (c : UInt8) (s : Str) : ((parts c s).map PV.str)[0]? = some (.str ((parts c s).getD 0 [])) :=
 str_at0 (parts c s) (by rw [parts_len]; omega)
theorem words_parts (p : Str) : rwords ((parts 35 p).getD 0 []) = words p := by
 rw [parts_head, words_rw]; rfl
theorem c25 (s : Str) : PFun Tryz.prog Gl 20 [.str s] fun r => r = .tup [.sl ((lines s).1.map eLine), .int .i64 (lines s).2.1, .int .i64 (lines s).2.2] := by
 refine PFun.of hT Tryz.func20 rfl fun B hD => ?_
 refine pw_norm rfl ?_
 (refine zGo ?_)
 refine pw_cond rfl (fun h => ?_) (fun h => ?_)
 ·(refine zGo ?_)
  refine ret0 _ (.tup [.sl [], .int .i64 0, .int .i64 3]) rfl ?_ (.inr (.inr (.inr (.inr (.inr ⟨_, _, rfl, rfl, .inr (.inr (.inl ⟨rfl, rfl⟩)), .inr (.inl rfl), .inr (.inl rfl), trivial⟩))))) rfl
  have h' : decide ((s.length : Int) > 16384) = true := h
  simp only [lines, h', if_true]
  rfl
 ·have h' : decide ((s.length : Int) > 16384) = false := h
  have hsm : s.length ≤ 16384 := by have h'' := h; simp at h''; omega
  (refine zGo ?_)
  (refine pl_op rfl (op_fun (c58 s 10 (by unfold Small; omega)) rfl rfl e51 zLe rfl (fun r hr => ?_)); subst hr; refine ⟨rfl, ?_⟩; (refine zNp ?_))
  (refine zGo ?_)
  refine pw_ghost 2 ?_
  refine pw_norm rfl ?_
  have hps0 := splitAt_parts 10 s
  generalize hps : parts 10 s = ps at *
  have hpl : ps.length ≤ s.length + 1 := by rw [← hps, parts_len]; have := List.count_le_length (a := (10 : UInt8)) (l := s); omega
  have hpz : ∀ p ∈ ps, p.length ≤ s.length := fun p hp => part_len' 10 s p (hps ▸ hp)
  refine pw_for hD (fun a : Nat × List TLine × Nat => [(5, .msl 2 0 0 (a.2.1.map eLine).length a.2.2), (7, .int .i64 a.1)]) (fun a => [.arr 2 (a.2.1.map eLine) a.2.2]) (fun a => lrun (ps.drop a.1) a.1 a.2.1 = lrun ps 0 [] ∧ a.1 ≤ ps.length ∧ a.2.1.length ≤ a.1) (fun a => ps.length - a.1) (0, [], 0) ⟨rfl, Nat.zero_le _, Nat.le_refl _⟩ 1 rfl (fun _ => rfl)
   ⟨.inl rfl, trivial⟩ (fun _ => rfl) (fun _ => rfl) zLe ?_
  rintro ⟨i, out, cap⟩ ⟨hw, hi, ho⟩
  dsimp only at hw hi ho ⊢
  (refine zGo ?_)
  refine pw_cond rfl (fun h1 => ?_) (fun h1 => ?_)
  ·simp only [decide_eq_true_eq, List.length_map] at h1
   have hlt : i < ps.length := by omega
   have hz : ps[i].length ≤ s.length := hpz _ (List.getElem_mem hlt)
   have hdr : ps.drop i = ps[i] :: ps.drop (i + 1) := List.drop_eq_getElem_cons hlt
   simp only [hdr, lrun] at hw
   have hp : (ps.map PV.str)[i]? = some (.str ps[i]) := by simp [hlt]
   generalize ps[i] = p at hp hz hw
   (refine zGo ?_)
   refine pw_for hD (fun k : Nat => [(8, .int .i64 k)]) (fun _ => [.arr 2 (out.map eLine) cap]) (fun k => k ≤ p.length ∧ (p.drop k).all pbyte = p.all pbyte) (fun k => p.length - k) 0 ⟨Nat.zero_le _, rfl⟩ 1 rfl (fun _ => rfl) ⟨.inl rfl, trivial⟩ (fun _ => rfl) (fun _ => rfl) zLe ?_
   rintro k ⟨hk, hb⟩
   (refine zGo ?_)
   (refine pl_op rfl (op_of (v_index (p := .str p) hT rfl rfl rfl rfl (by omega) (hp) rfl) ?_); (refine zNp ?_))
   (refine zGo ?_)
   refine pw_cond rfl (fun h2 => ?_) (fun h2 => ?_)
   ·simp only [decide_eq_true_eq] at h2
    have hkl : k < p.length := by omega
    have hg := get_getD hkl
    rw [drop_getD hkl, List.all_cons] at hb
    generalize p.getD k 0 = c at hg hb
    (refine zGo ?_)
    (refine pl_op rfl (op_of (v_index (p := .str p) hT rfl rfl rfl rfl (by omega) (hp) rfl) ?_); (refine zNp ?_))
    (refine zGo ?_)
    (refine pl_op rfl (op_of (v_indexs (c := c) hT rfl rfl rfl rfl (by omega) (hg)) ?_); (refine zNp ?_))
    (refine zGo ?_)
    refine pl_and 17 37 54 (decide ((c.toNat : Int) < 32) || decide ((c.toNat : Int) > 126)) rfl rfl rfl (fun _ => ?_) (fun _ => ?_) ?_
    ·refine pl_norm rfl ?_
     (refine zGo ?_)
     (refine pl_on rfl rfl (op_of (v_index (p := .str p) hT rfl rfl rfl rfl (by omega) (hp) rfl) ?_); (refine zNp ?_))
     (refine zGo ?_)
     (refine pl_on rfl rfl (op_of (v_indexs (c := c) hT rfl rfl rfl rfl (by omega) (hg)) ?_); (refine zNp ?_))
     (refine zGo ?_)
     refine pl_or 8 45 53 (decide ((c.toNat : Int) > 126)) rfl rfl rfl (fun _ => ?_) (fun _ => ?_) ?_
     ·refine pl_norm rfl ?_
      (refine zGo ?_)
      exact ⟨zLe, StLe.refl _⟩
     ·refine pl_norm rfl ?_
      (refine zGo ?_)
      (refine pl_on rfl rfl (op_of (v_index (p := .str p) hT rfl rfl rfl rfl (by omega) (hp) rfl) ?_); (refine zNp ?_))
      (refine zGo ?_)
      (refine pl_on rfl rfl (op_of (v_indexs (c := c) hT rfl rfl rfl rfl (by omega) (hg)) ?_); (refine zNp ?_))
      (refine zGo ?_)
      exact ⟨zLe, StLe.refl _⟩
     refine pl_norm rfl ?_
     (refine zGo ?_)
     exact ⟨zLe, StLe.refl _⟩
    ·refine pl_norm rfl ?_
     (refine zGo ?_)
     exact ⟨zLe, StLe.refl _⟩
    refine pl_norm rfl ?_
    (refine zGo ?_)
    refine pw_cond rfl (fun h3 => ?_) (fun h3 => ?_)
    ·(refine zGo ?_)
     refine ret0 _ (.tup [.sl [], .int .i64 ((i : Int) + 1), .int .i64 4]) rfl ?_ (.inr (.inr (.inr (.inr (.inr ⟨_, _, rfl, rfl, .inr (.inr (.inl ⟨rfl, rfl⟩)), .inr (.inl rfl), .inr (.inl rfl), trivial⟩))))) rfl
     have hc : pbyte c = false := by simp only [pbyte, h3]; rfl
     rw [hc, Bool.false_and] at hb
     rw [if_pos (by rw [← hb]; rfl)] at hw
     simp only [lines, h', Bool.false_eq_true, if_false, hps0, ← hw]
     rfl
    ·have hc : pbyte c = true := by simp only [pbyte, h3]; rfl
     rw [hc, Bool.true_and] at hb
     (refine zGo ?_)
     exact ⟨k + 1, ⟨hkl, hb⟩, by omega, zLe, zLes⟩
   simp only [decide_eq_false_iff_not] at h2
   have hke : k = p.length := by omega
   rw [hke, List.drop_length, List.all_nil] at hb
   rw [if_neg (by rw [← hb]; simp)] at hw
   clear h2 hke
   (refine zGo ?_)
   (refine pl_op rfl (op_of (v_index (p := .str p) hT rfl rfl rfl rfl (by omega) (hp) rfl) ?_); (refine zNp ?_))
   (refine zGo ?_)
   (refine pl_op rfl (op_fun (c58 p 35 (by unfold Small; omega)) rfl rfl e51 zLe rfl (fun r hr => ?_)); subst hr; refine ⟨rfl, ?_⟩; (refine zNp ?_))
   (refine pl_op rfl (op_of (v_index (p := .str ((parts 35 p).getD 0 [])) hT rfl rfl rfl rfl (by omega) (parts_zero 35 p) rfl) ?_); (refine zNp ?_))
   (refine zGo ?_)
   have hsp : Small ((parts 35 p).getD 0 []) := by
    unfold Small
    rw [parts_head]
    have := (List.takeWhile_prefix (fun x => !(x == (35 : UInt8))) (l := p)).length_le
    omega
   (refine pl_op rfl (op_fun (c59 ((parts 35 p).getD 0 []) hsp) rfl rfl e52 zLe rfl (fun r hr => ?_)); subst hr; refine ⟨rfl, ?_⟩; (refine zNp ?_))
   rw [words_parts]
   (refine zGo ?_)
   refine pw_cond rfl (fun h3 => ?_) (fun h3 => ?_)
   ·have h3' : decide (((words p).length : Int) > 64) = true := by simpa [List.length_map] using h3
    rw [if_pos h3'] at hw
    (refine zGo ?_)
    refine ret0 _ (.tup [.sl [], .int .i64 ((i : Int) + 1), .int .i64 3]) rfl ?_ (.inr (.inr (.inr (.inr (.inr ⟨_, _, rfl, rfl, .inr (.inr (.inl ⟨rfl, rfl⟩)), .inr (.inl rfl), .inr (.inl rfl), trivial⟩))))) rfl
    simp only [lines, h', Bool.false_eq_true, if_false, hps0, ← hw]
    rfl
   ·have h3' : ¬ decide (((words p).length : Int) > 64) = true := by intro e; simp [List.length_map] at h3 e; omega
    rw [if_neg h3'] at hw
    (refine zGo ?_)
    refine pw_cond rfl (fun h4 => ?_) (fun h4 => ?_)
    ·have h4' : decide (((words p).length : Int) > 0) = true := by simpa [List.length_map] using h4
     rw [if_pos h4'] at hw
     (refine zGo ?_)
     (refine pl_append (b := 32) hT hD rfl rfl rfl rfl rfl rfl rfl rfl (.inl (Nat.zero_lt_succ _)) rfl rfl (by simp; omega) (fun cap' _ hcap => ?_); (refine zNp ?_))
     (refine zGo ?_)
     refine ⟨(i + 1, out ++ [⟨(i : Int) + 1, words p⟩], cap'), ⟨hw, by show i + 1 ≤ _; omega, by show (out ++ [_]).length ≤ i + 1; simp; omega⟩, by show _ - (i + 1) < _ - i; omega, ?_, ?_⟩
     ·simp only [List.map_append, List.length_append]
      (exact zLe)
     ·simp only [List.map_append]
      (exact zLes)
    ·have h4' : ¬ decide (((words p).length : Int) > 0) = true := by intro e; have e' := of_decide_eq_true e; have h4'' := of_decide_eq_false h4; rw [List.length_map] at h4''; omega
     rw [if_neg h4'] at hw
     (refine zGo ?_)
     exact ⟨(i + 1, out, cap), ⟨hw, by show i + 1 ≤ _; omega, by show out.length ≤ i + 1; omega⟩, by show _ - (i + 1) < _ - i; omega, zLe, zLes⟩
  ·simp only [decide_eq_false_iff_not, List.length_map] at h1
   have hie : i = ps.length := by omega
   subst hie
   simp only [List.drop_length, lrun] at hw
   (refine zGo ?_)
   refine ret0 _ (.tup [.sl (out.map eLine), .int .i64 0, .int .i64 0]) rfl ?_ (.inr (.inr (.inr (.inr (.inr ⟨_, _, rfl, rfl, .inr (.inr (.inr (.inl ⟨_, _, _, _, _, _, rfl, rfl, rfl, rfl, rfl⟩))), .inr (.inl rfl), .inr (.inl rfl), trivial⟩))))) rfl
   simp only [lines, h', Bool.false_eq_true, if_false, hps0, ← hw]
end Go.Proofs.YtkaobkjcjodffaaGreatDoor
namespace Go.Proofs.YtkaobkjcjodffaaGreatDoor
open Go Go.Pw
variable {Gl : Glob}
attribute [local irreducible] PW PWL OpP PCalls PWO
theorem joinW_at (w : List Str) (k : Nat) (h : k < w.length) : joinW k (w.drop k) = (if k = 0 then [] else [32]) ++ w.getD k [] ++ joinW (k + 1) (w.drop (k + 1)) := by
 rw [List.drop_eq_getElem_cons h, List.getD, List.getElem?_eq_getElem h]
 cases k with
 | zero => simp [joinW]
 | succ k => simp [joinW]
theorem c27 (l : List TLine) (hl : Small l) (hw : ∀ x ∈ l, Small x.words) (hb : Small (textS l)) : PFun Tryz.prog Gl 21 [.sl (l.map eLine)] fun r => r = .str (textS l) := by
 refine PFun.of hT Tryz.func21 rfl fun B hD => ?_
 refine pw_norm rfl ?_
 unfold Small at hl hb
 (refine zGo ?_)
 refine pw_for hD (fun a : Nat × Str => [(3, .str a.2), (4, .int .i64 a.1)]) (fun _ => []) (fun a => a.1 ≤ l.length ∧ a.2 ++ textS (l.drop a.1) = textS l) (fun a => l.length - a.1) (0, []) ⟨Nat.zero_le _, rfl⟩ 0 rfl (fun _ => rfl) (StLe.refl _) (fun _ => rfl) (fun _ => rfl) zLe ?_
 rintro ⟨i, s⟩ ⟨hi, hs⟩
 dsimp only at hi hs ⊢
 (refine zGo ?_)
 refine pw_cond rfl (fun h => ?_) (fun h => ?_)
 ·simp only [decide_eq_true_eq, List.length_map] at h
  have hlt : i < l.length := by omega
  have hp : (l.map eLine)[i]? = some (eLine l[i]) := by simp [hlt]
  have hwi := hw _ (List.getElem_mem hlt)
  have hd : textS (l.drop i) = lineS (l[i]).words ++ textS (l.drop (i + 1)) := by unfold textS; rw [List.drop_eq_getElem_cons hlt, List.map_cons, List.flatten_cons]
  rw [hd, lineS] at hs
  generalize l[i] = x at hp hwi hs
  unfold Small at hwi
  (refine zGo ?_)
  refine pw_for hD (fun a : Nat × Str => [(3, .str a.2), (5, .int .i64 a.1)]) (fun _ => []) (fun a => a.1 ≤ x.words.length ∧ a.2 ++ (joinW a.1 (x.words.drop a.1) ++ [10] ++ textS (l.drop (i + 1))) = textS l) (fun a => x.words.length - a.1) (0, s) ⟨Nat.zero_le _, hs⟩ 0 rfl (fun _ => rfl) (StLe.refl _) (fun _ => rfl) (fun _ => rfl) zLe ?_
  rintro ⟨k, u⟩ ⟨hk, hu⟩
  dsimp only at hk hu ⊢
  have hul : u.length ≤ (textS l).length := by rw [← hu]; simp
  (refine zGo ?_)
  (refine pl_op rfl (op_of (v_index (p := eLine x) hT rfl rfl rfl rfl (by omega) (hp) rfl) ?_); (refine zNp ?_))
  (refine zGo ?_)
  refine pw_cond rfl (fun h1 => ?_) (fun h1 => ?_)
  ·simp only [decide_eq_true_eq, List.length_map] at h1
   have hlk : k < x.words.length := by omega
   rw [joinW_at x.words k hlk] at hu
   have hg := str_at x.words k hlk
   generalize x.words.getD k [] = wd at hu hg
   have hul2 : u.length + wd.length + 1 ≤ (textS l).length := by rw [← hu]; simp; omega
   (refine zGo ?_)
   refine pw_cond rfl (fun h2 => ?_) (fun h2 => ?_)
   ·have hk0 : ¬ k = 0 := by simp at h2; omega
    rw [if_neg hk0] at hu
    (refine zGo ?_)
    (refine pl_op rfl (op_of (v_concat rfl rfl rfl (by (try simp); omega)) ?_); (refine zNp ?_))
    (refine zGo ?_)
    (refine pl_op rfl (op_of (v_index (p := eLine x) hT rfl rfl rfl rfl (by omega) (hp) rfl) ?_); (refine zNp ?_))
    (refine zGo ?_)
    (refine pl_op rfl (op_of (v_index (p := .str wd) hT rfl rfl rfl rfl (by omega) (hg) rfl) ?_); (refine zNp ?_))
    (refine zGo ?_)
    (refine pl_op rfl (op_of (v_concat rfl rfl rfl (by (try simp); omega)) ?_); (refine zNp ?_))
    (refine zGo ?_)
    refine ⟨(k + 1, u ++ [32] ++ wd), ⟨hlk, ?_⟩, by show _ - (k + 1) < _ - k; omega, zLe, StLe.refl _⟩
    rw [← hu]; simp
   ·have hk0 : k = 0 := by simp at h2; omega
    rw [if_pos hk0] at hu
    (refine zGo ?_)
    (refine pl_op rfl (op_of (v_index (p := eLine x) hT rfl rfl rfl rfl (by omega) (hp) rfl) ?_); (refine zNp ?_))
    (refine zGo ?_)
    (refine pl_op rfl (op_of (v_index (p := .str wd) hT rfl rfl rfl rfl (by omega) (hg) rfl) ?_); (refine zNp ?_))
    (refine zGo ?_)
    (refine pl_op rfl (op_of (v_concat rfl rfl rfl (by (try simp); omega)) ?_); (refine zNp ?_))
    (refine zGo ?_)
    refine ⟨(k + 1, u ++ wd), ⟨hlk, ?_⟩, by show _ - (k + 1) < _ - k; omega, zLe, StLe.refl _⟩
    rw [← hu]; simp
  ·simp only [decide_eq_false_iff_not, List.length_map] at h1
   have hke : k = x.words.length := by omega
   rw [hke, List.drop_length, show joinW x.words.length [] = [] from by cases x.words.length <;> rfl] at hu
   have hul3 : u.length + 1 ≤ (textS l).length := by
    have := congrArg List.length hu
    simp only [List.length_append, List.length_cons, List.length_nil] at this
    omega
   (refine zGo ?_)
   (refine pl_op rfl (op_of (v_concat rfl rfl rfl (by show _ + 1 ≤ _; omega)) ?_); (refine zNp ?_))
   (refine zGo ?_)
   refine ⟨(i + 1, u ++ [10]), ⟨hlt, ?_⟩, by show _ - (i + 1) < _ - i; omega, zLe, StLe.refl _⟩
   rw [← hu]; simp
 ·simp only [decide_eq_false_iff_not, List.length_map] at h
  have hie : i = l.length := by omega
  have hs' : s = textS l := by rw [← hs, hie, List.drop_length]; simp [textS]
  subst hs'
  (refine zGo ?_)
  exact ret1 _ rfl rfl rfl
end Go.Proofs.YtkaobkjcjodffaaGreatDoor
namespace Go.Proofs.YtkaobkjcjodffaaGreatDoor
open Go Go.Pw
variable {Gl : Glob}
attribute [local irreducible] PW PWL OpP PCalls PWO
instance (s sep : Str) : ConF Tryz.prog Gl 147 [.str s, .str sep] (GM Gl ∧ s.length < 4294967281) (.tup [.str (Lib.cut s sep).1, .str (Lib.cut s sep).2.1, .bool (Lib.cut s sep).2.2]) := ⟨e147, fun h => c128 h.1 s sep h.2⟩
instance (s : Str) : ConF Tryz.prog Gl 68 [.str s] True (.bool (vname s)) := ⟨e68, fun _ => c85 s⟩
instance (s : Str) : ConF Tryz.prog Gl 75 [.str s] True (.bool (vname s)) := ⟨e75, fun _ => c92 s⟩
instance (s : Str) : ConF Tryz.prog Gl 51 [.str s, .int .u8 45] (s.length < 4294967281) (.sl ((parts 45 s).map .str)) := ⟨e51, fun h => c58 s 45 (by unfold Small; omega)⟩
instance (n : Int) : ConF Tryz.prog Gl 35 [.int .i64 n] (0 ≤ n ∧ n < 10000) (.str (dec n.toNat)) := ⟨e35, fun h => c35s n h.1 h.2⟩
def dayNames : List Str := [[109, 111, 110], [116, 117, 101], [119, 101, 100], [116, 104, 117], [102, 114, 105], [115, 97, 116], [115, 117, 110]]
def pair2 (s : Str) : Int := if s.length = 2 ∧ 48 ≤ (s.getD 0 0).toNat ∧ (s.getD 0 0).toNat ≤ 57 ∧ 48 ≤ (s.getD 1 0).toNat ∧ (s.getD 1 0).toNat ≤ 57 then 10 * ((s.getD 0 0).toNat - 48) + ((s.getD 1 0).toNat - 48) else -1
theorem c_pair (s : Str) : PFun Tryz.prog Gl 203 [.str s] fun r => r = .int .i64 (pair2 s) := by
 (refine PFun.of hT Tryz.func203 rfl fun B hD => ?_; refine pw_norm rfl ?_)
 (repeat' (first | (refine zDr [[0,1,2,3,4,5,6,7,8,9,10]] ?_; refine zDn ?_) | refine zS ?_ | refine zD ?_ | refine po_both ?_ ?_ | refine pwt_both ?_ ?_ | refine pwt_fork ?_ | refine pwt_lin ?_ | (refine po_test rfl rfl rfl rfl zB ?_ ?_ <;> intro hb <;> first | exact zX | refine zDn ?_) | refine zq5 ?_ | refine zq6 ?_ | (refine zT ?_ ?_ <;> intro h <;> first | exact zX | refine zNq ?_)))
 all_goals (refine ret1 _ rfl ?_ rfl; refine iE ?_; unfold pair2; split <;> omega)
instance (s : Str) : ConF Tryz.prog Gl 203 [.str s] True (.int .i64 (pair2 s)) := ⟨e203, fun _ => c_pair s⟩
theorem c_two (s : Str) : PFun Tryz.prog Gl 193 [.str s] fun r => r = .int .i64 (pair2 s) := by
 (refine PFun.of hT Tryz.func193 rfl fun B hD => ?_; refine pw_norm rfl ?_)
 (repeat' (first | (refine zDr [[0,1,2,3,4,5,6,7,8,9,10]] ?_; refine zDn ?_) | refine zS ?_ | refine zD ?_ | refine po_both ?_ ?_ | refine pwt_both ?_ ?_ | refine pwt_fork ?_ | refine pwt_lin ?_ | (refine po_test rfl rfl rfl rfl zB ?_ ?_ <;> intro hb <;> first | exact zX | refine zDn ?_) | refine zq5 ?_ | refine zq6 ?_ | (refine zT ?_ ?_ <;> intro h <;> first | exact zX | refine zNq ?_)))
 all_goals (refine ret1 _ rfl ?_ rfl; refine iE ?_; unfold pair2; split <;> omega)
instance (s : Str) : ConF Tryz.prog Gl 193 [.str s] True (.int .i64 (pair2 s)) := ⟨e193, fun _ => c_two s⟩
theorem pair2_range (s : Str) : -1 ≤ pair2 s ∧ pair2 s ≤ 99 := by unfold pair2; split <;> omega
def hm (l r : Str) (f : Bool) : Int := if f = true ∧ 0 ≤ pair2 l ∧ pair2 l ≤ 23 ∧ 0 ≤ pair2 r ∧ pair2 r ≤ 59 then 60 * pair2 l + pair2 r else -1
def clock (s : Str) : Int := if s = [50, 52, 58, 48, 48] then 1440 else hm (Lib.cut s [58]).1 (Lib.cut s [58]).2.1 (Lib.cut s [58]).2.2
theorem clock_range (s : Str) : -1 ≤ clock s ∧ clock s ≤ 1440 := by unfold clock hm; split <;> (try split) <;> omega
theorem c_clock (hG : GM Gl) (s : Str) (hs : s.length < 4294967281) : PFun Tryz.prog Gl 173 [.str s] fun r => r = .int .i64 (clock s) := by
 (refine PFun.of hT Tryz.func173 rfl fun B hD => ?_; refine pw_norm rfl ?_)
 have hl := pair2_range (Lib.cut s [58]).1
 have hr := pair2_range (Lib.cut s [58]).2.1
 (repeat' (first | refine zS ?_ | refine zq5 ?_ | refine zq6 ?_ | (refine zT ?_ ?_ <;> intro h <;> first | exact zX | refine zNq ?_)))
 all_goals first | (refine ret1 _ rfl ?_ rfl; refine iE ?_; unfold clock hm; simp only [*, if_true, if_false]; try (split <;> simp_all <;> omega)) | (refine pl_op rfl ?_; refine op_conG rfl rfl rfl (by exact inferInstance) (by repeat' (first | exact trivial | assumption | apply And.intro | omega)) (by rfl) (by rfl) ?_)
instance (s : Str) : ConF Tryz.prog Gl 173 [.str s] (GM Gl ∧ s.length < 4294967281) (.int .i64 (clock s)) := ⟨e173, fun h => c_clock h.1 s h.2⟩
end Go.Proofs.YtkaobkjcjodffaaGreatDoor
namespace Go.Proofs.YtkaobkjcjodffaaGreatDoor
open Go Go.Pw
variable {Gl : Glob}
attribute [local irreducible] PW PWL OpP PCalls PWO
theorem c_index1 (L : List Str) (v : Str) (hl : Small L) : PFun Tryz.prog Gl 202 [.sl (L.map .str), .str v] fun r => r = .int .i64 (firstAt (v == ·) L) := by
 (refine PFun.of hT Tryz.func202 rfl fun B hD => ?_; refine pw_norm rfl ?_)
 unfold Small at hl
 (repeat' (first | refine zS ?_ | (refine zT ?_ ?_ <;> intro h <;> first | exact zX | refine zNq ?_)))
 refine pw_for hD (fun i : Nat => [(8, .int .i64 i)]) (fun _ => []) (fun i => i ≤ L.length ∧ ∀ (j : Nat) d, j < i → L[j]? = some d → (v == d) = false) (fun i => L.length - i) 0 ⟨by omega, by intro j c h; omega⟩ 0 rfl (fun _ => rfl) zLes (fun _ => rfl) (fun _ => rfl) zLe ?_
 rintro i ⟨hi, hno⟩
 (repeat' (first | refine zS ?_ | (refine zT ?_ ?_ <;> intro h <;> first | exact zX | refine zNq ?_)))
 ·have hlt : i < L.length := by omega
  refine ret1 _ rfl ?_ rfl
  rw [firstAt_hit hlt (by rename_i h; rw [h, List.getD, List.getElem?_eq_getElem hlt]; simp) hno]
 ·have hlt : i < L.length := by omega
  refine ⟨i + 1, ⟨by omega, fun j d hj hd => ?_⟩, by omega, zLe, zLes⟩
  rcases Nat.lt_succ_iff_lt_or_eq.1 hj with hj | rfl
  ·exact hno j d hj hd
  ·rename_i h; simp only [List.getD, hd, Option.getD_some] at h; simpa using h
 ·refine ret1 _ rfl ?_ rfl
  rw [firstAt_miss fun j x hj => hno j x (by have := (List.getElem?_eq_some_iff.1 hj).1; omega) hj]
instance (L : List Str) (v : Str) : ConF Tryz.prog Gl 202 [.sl (L.map .str), .str v] (Small L) (.int .i64 (firstAt (v == ·) L)) := ⟨e202, fun h => c_index1 L v h⟩
def dayIx (s : Str) : Int := firstAt (s == ·) dayNames
theorem firstAt_range {α : Type} (p : α → Bool) (l : List α) : -1 ≤ firstAt p l ∧ firstAt p l < l.length := by
 unfold firstAt
 split
 ·rename_i i h
  rw [List.findIdx?_eq_some_iff_getElem] at h
  obtain ⟨h, _⟩ := h
  omega
 ·omega
theorem dayIx_range (s : Str) : -1 ≤ dayIx s ∧ dayIx s ≤ 6 := by
 have := firstAt_range (s == ·) dayNames
 have h7 : dayNames.length = 7 := rfl
 unfold dayIx; omega
def GD (Gl : Glob) : Prop := GRow Gl 0 (dayNames.map .str)
theorem c_dayIndex (hD' : GD Gl) (s : Str) : PFun Tryz.prog Gl 172 [.str s] fun r => r = .int .i64 (dayIx s) := by
 (refine PFun.of hT Tryz.func172 rfl fun B hD => ?_; refine pw_norm rfl ?_)
 (repeat' (first | refine zS ?_ | (refine zT ?_ ?_ <;> intro h <;> first | exact zX | refine zNq ?_)))
 (refine pl_op rfl (op_of (v_gslice hT rfl rfl rfl rfl hD' rfl (by decide) (by decide)) ?_); (refine zNp ?_))
 have hs : Small dayNames := by unfold Small; decide
 (repeat' (first | refine zS ?_ | (refine zT ?_ ?_ <;> intro h <;> first | exact zX | refine zNq ?_)))
 exact ret1 _ rfl rfl rfl
instance (s : Str) : ConF Tryz.prog Gl 172 [.str s] (GD Gl) (.int .i64 (dayIx s)) := ⟨e172, fun h => c_dayIndex h s⟩
theorem c_rdays : PFun Tryz.prog Gl 84 [] fun r => r = .sl (dayNames.map .str) := by
 (refine PFun.of hT Tryz.func84 rfl fun B hD => ?_; refine pw_norm rfl ?_)
 (repeat' (first | refine zS ?_ | (refine zT ?_ ?_ <;> intro h <;> first | exact zX | refine zNq ?_)))
 exact ret1 _ rfl rfl rfl
instance : ConF Tryz.prog Gl 84 [] True (.sl (dayNames.map .str)) := ⟨e84, fun _ => c_rdays⟩
theorem c_rday (s : Str) : PFun Tryz.prog Gl 159 [.str s] fun r => r = .int .i64 (dayIx s) := by
 (refine PFun.of hT Tryz.func159 rfl fun B hD => ?_; refine pw_norm rfl ?_)
 (repeat' (first | refine zS ?_ | (refine zT ?_ ?_ <;> intro h <;> first | exact zX | refine zNq ?_)))
 refine pw_for hD (fun i : Nat => [(4, .int .i64 i)]) (fun _ => []) (fun i => i ≤ 7 ∧ ∀ (j : Nat) d, j < i → dayNames[j]? = some d → (s == d) = false) (fun i => 7 - i) 0 ⟨by omega, by intro j c h; omega⟩ 0 rfl (fun _ => rfl) zLes (fun _ => rfl) (fun _ => rfl) zLe ?_
 rintro i ⟨hi, hno⟩
 have h7 : dayNames.length = 7 := rfl
 (repeat' (first | refine zS ?_ | (refine zT ?_ ?_ <;> intro h <;> first | exact zX | refine zNq ?_)))
 ·have hlt : i < dayNames.length := by omega
  refine ret1 _ rfl ?_ rfl
  rename_i h
  rw [dayIx, firstAt_hit hlt (by rw [← h, List.getD, List.getElem?_eq_getElem hlt]; simp) hno]
 ·have hlt : i < dayNames.length := by omega
  refine ⟨i + 1, ⟨by omega, fun j d hj hd => ?_⟩, by omega, zLe, zLes⟩
  rcases Nat.lt_succ_iff_lt_or_eq.1 hj with hj | rfl
  ·exact hno j d hj hd
  ·rename_i h; simp only [List.getD, hd, Option.getD_some] at h; exact beq_eq_false_iff_ne.2 (fun e => h e.symm)
 ·refine ret1 _ rfl ?_ rfl
  rw [dayIx, firstAt_miss fun j x hj => hno j x (by have := (List.getElem?_eq_some_iff.1 hj).1; omega) hj]
instance (s : Str) : ConF Tryz.prog Gl 159 [.str s] True (.int .i64 (dayIx s)) := ⟨e159, fun _ => c_rday s⟩
end Go.Proofs.YtkaobkjcjodffaaGreatDoor
namespace Go.Proofs.YtkaobkjcjodffaaGreatDoor
open Go Go.Pw
variable {Gl : Glob}
attribute [local irreducible] PW PWL OpP PCalls PWO
theorem subnets_ok : ∀ p ∈ subnets, rvalid p = true := by decide
theorem rvalid_of {a b s : Int} (hb : 0 ≤ b ∧ b ≤ 32) (hs : rsize b = s) (_h0 : 0 < s) (ha : 0 ≤ a ∧ a < 4294967296) (hm : a % s = 0) : rvalid ⟨a, b⟩ = true := by
 unfold rvalid
 dsimp only
 rw [hs, IntKind.wrap_u64, decide_eq_true hb.1, decide_eq_true hb.2]
 have e : a % 18446744073709551616 = a := Int.emod_eq_of_lt ha.1 (by omega)
 rw [e, Int.tmod_eq_emod_of_nonneg ha.1, hm]
 rfl
theorem shift_ok {a s : Int} (ha : 0 ≤ a ∧ a < 4294967296) (h0 : 0 < s) : (0 ≤ a / s * s ∧ a / s * s < 4294967296) ∧ a / s * s % s = 0 := by
 have h1 : a / s * s ≤ a := Int.ediv_mul_le a (by omega)
 have h2 : 0 ≤ a / s := Int.ediv_nonneg ha.1 (by omega)
 exact ⟨⟨Int.mul_nonneg h2 (by omega), by omega⟩, Int.mul_emod_left _ _⟩
theorem prefix_ok {a b : Int} (ha : 0 ≤ a ∧ a < 4294967296) (hb : b ∈ someBits) (h : b < 32) : rvalid ⟨IntKind.u32.wrap (a.fdiv (2 ^ (min (32 - b).toNat IntKind.u32.bits)) * 2 ^ (min (32 - b).toNat IntKind.u32.bits)), b⟩ = true := by
 have key : ∀ (s : Int), 0 < s → (2 : Int) ^ (min (32 - b).toNat IntKind.u32.bits) = s → rsize b = s → 0 ≤ b → rvalid ⟨IntKind.u32.wrap (a.fdiv (2 ^ (min (32 - b).toNat IntKind.u32.bits)) * 2 ^ (min (32 - b).toNat IntKind.u32.bits)), b⟩ = true := by
  intro s h0 h1 h2 h3
  rw [h1, Int.fdiv_eq_ediv_of_nonneg a (by omega), IntKind.wrap_u32]
  have := shift_ok (s := s) ha h0
  rw [Int.emod_eq_of_lt this.1.1 this.1.2]
  exact rvalid_of ⟨h3, by omega⟩ h2 h0 this.1 this.2
 simp only [someBits, List.mem_cons, List.mem_nil_iff, or_false] at hb
 rcases hb with rfl | rfl | rfl | rfl | rfl | rfl | rfl | rfl | rfl | rfl
 ·omega
 all_goals exact key _ (by decide) rfl (by decide) (by decide)
theorem c_gPrefix (l : List Int) (hl : Tp l) (i : Nat) (hi : i ≤ l.length) : Gen Gl 37 [] l i fun r => ∃ p : TPfx, (PfxIn p ∧ rvalid p = true) ∧ r = ePfx p := by
 refine PCalls.of hT Tryz.func37 rfl 1 (Nat.le_refl _) fun B hD => ?_
 refine pw_norm rfl ?_
 (refine zGo ?_)
 (refine pl_op rfl (zCl [0] e17 (c13n l hl i hi 3 (by decide) (by decide)) (fun r s hq => ?_)); obtain ⟨i1, ⟨m1, hm1, rfl⟩, hi1, rfl⟩ := hq; refine ⟨rfl, rfl, ?_⟩; (refine zNp ?_))
 (refine zGo ?_)
 refine pw_cond rfl (fun h => ?_) (fun h => ?_)
 ·(refine zGo ?_)
  (refine pl_op rfl (zCl [0] e17 (c13n l hl i1 hi1 6 (by decide) (by decide)) (fun r s hq => ?_)); obtain ⟨i2, ⟨m2, hm2, rfl⟩, hi2, rfl⟩ := hq; refine ⟨rfl, rfl, ?_⟩; (refine zNp ?_))
  (refine pl_op rfl (op_fun (c37 m2) rfl rfl e43 zLe rfl (fun r hr => ?_)); obtain ⟨p, hp, rfl⟩ := hr; refine ⟨rfl, ?_⟩; (refine zNp ?_))
  (refine zGo ?_)
  exact ⟨_, _, _, rfl, ⟨i2, ⟨p, ⟨subnets_in hp, subnets_ok p hp⟩, rfl⟩, hi2, rfl⟩, .inr (.inl rfl), ⟨.inr (.inl rfl), trivial⟩, rfl, rfl⟩
 ·(refine zGo ?_)
  (refine pl_op rfl (zCl [0] e17 (c13n l hl i1 hi1 10 (by decide) (by decide)) (fun r s hq => ?_)); obtain ⟨i2, ⟨m2, hm2, rfl⟩, hi2, rfl⟩ := hq; refine ⟨rfl, rfl, ?_⟩; (refine zNp ?_))
  (refine pl_op rfl (op_of (v_index (p := .int .i64 (someBits.getD m2 0)) hT rfl rfl rfl rfl (by omega) (lit_at (.int .i64) someBits m2 0 hm2) rfl) ?_); (refine zNp ?_))
  have hb : 0 ≤ someBits.getD m2 0 ∧ someBits.getD m2 0 ≤ 32 := by
   have : ∀ b ∈ someBits, 0 ≤ b ∧ b ≤ 32 := by decide
   exact this _ (getD_mem hm2)
  have hbm : someBits.getD m2 0 ∈ someBits := getD_mem hm2
  generalize someBits.getD m2 0 = bits at hb hbm ⊢
  (refine zGo ?_)
  (refine pl_op rfl (zCl [0] e57 (c22 l hl i2 hi2) (fun r s hq => ?_)); obtain ⟨i3, ⟨a, ha, rfl⟩, hi3, rfl⟩ := hq; refine ⟨rfl, rfl, ?_⟩; (refine zNp ?_))
  (refine zGo ?_)
  refine pw_cond rfl (fun h2 => ?_) (fun h2 => ?_)
  ·simp only [decide_eq_true_eq] at h2
   (refine zGo ?_)
   (refine pl_op rfl (op_of (v_conv (c := 32 - bits) hT rfl rfl rfl rfl (IntWalk.u64_in _ (by omega))) ?_); (refine zNp ?_))
   (refine pl_op rfl (op_of (v_shr rfl rfl rfl (by omega) rfl) ?_); (refine zNp ?_))
   (refine zGo ?_)
   (refine pl_op rfl (op_of (v_conv (c := 32 - bits) hT rfl rfl rfl rfl (IntWalk.u64_in _ (by omega))) ?_); (refine zNp ?_))
   (refine pl_op rfl (op_of (v_shl rfl rfl rfl (by omega) rfl) ?_); (refine zNp ?_))
   (refine zGo ?_)
   exact ⟨_, _, _, rfl, ⟨i3, ⟨⟨_, bits⟩, ⟨u32_range _, prefix_ok ha hbm h2⟩, rfl⟩, hi3, rfl⟩, .inr (.inl rfl), ⟨.inr (.inl rfl), trivial⟩, rfl, rfl⟩
  ·simp only [decide_eq_false_iff_not] at h2
   obtain rfl : bits = 32 := by omega
   (refine zGo ?_)
   exact ⟨_, _, _, rfl, ⟨i3, ⟨⟨a, 32⟩, ⟨ha, rvalid_of (by decide) (by decide) (by decide) ha (Int.emod_one a)⟩, rfl⟩, hi3, rfl⟩, .inr (.inl rfl), ⟨.inr (.inl rfl), trivial⟩, rfl, rfl⟩
end Go.Proofs.YtkaobkjcjodffaaGreatDoor
namespace Go.Proofs.YtkaobkjcjodffaaGreatDoor
open Go Go.Pw
def mem (l : List TRng) (v : Int) : Prop := ∃ r ∈ l, r.lo ≤ v ∧ v ≤ r.hi
theorem mem_nil (v : Int) : ¬ mem [] v := by rintro ⟨r, h, _⟩; cases h
theorem mem_cons {r : TRng} {l : List TRng} {v : Int} : mem (r :: l) v ↔ (r.lo ≤ v ∧ v ≤ r.hi) ∨ mem l v := by
 constructor
 ·rintro ⟨x, hx, h⟩
  rcases List.mem_cons.1 hx with rfl | hx
  ·exact .inl h
  ·exact .inr ⟨x, hx, h⟩
 ·rintro (h | ⟨x, hx, h⟩)
  ·exact ⟨r, List.mem_cons_self .., h⟩
  ·exact ⟨x, List.mem_cons_of_mem _ hx, h⟩
theorem mem_append {a b : List TRng} {v : Int} : mem (a ++ b) v ↔ mem a v ∨ mem b v := by
 constructor
 ·rintro ⟨x, hx, h⟩
  rcases List.mem_append.1 hx with hx | hx
  ·exact .inl ⟨x, hx, h⟩
  ·exact .inr ⟨x, hx, h⟩
 ·rintro (⟨x, hx, h⟩ | ⟨x, hx, h⟩)
  ·exact ⟨x, List.mem_append_left _ hx, h⟩
  ·exact ⟨x, List.mem_append_right _ hx, h⟩
theorem mem_snoc {r : TRng} {l : List TRng} {v : Int} : mem (l ++ [r]) v ↔ mem l v ∨ (r.lo ≤ v ∧ v ≤ r.hi) := by
 rw [mem_append, mem_cons]; simp [mem_nil]
inductive Can : List TRng → Prop
 | nil : Can []
 | cons (r : TRng) (l : List TRng) : r.lo ≤ r.hi → (∀ x ∈ l, r.hi + 2 ≤ x.lo) → Can l → Can (r :: l)
theorem Can.low {r : TRng} {l : List TRng} (h : Can (r :: l)) {v : Int} (hv : mem (r :: l) v) : r.lo ≤ v := by
 cases h with
 | cons _ _ h1 h2 h3 =>
  rcases mem_cons.1 hv with h | ⟨x, hx, h⟩
  ·exact h.1
  ·have := h2 x hx; omega
theorem Can.uniq : ∀ {a b : List TRng}, Can a → Can b → (∀ v, mem a v ↔ mem b v) → a = b
 | [], [], _, _, _ => rfl
 | [], r :: l, _, hb, h => by
  cases hb with
  | cons _ _ h1 h2 h3 => exact absurd ((h r.lo).2 (mem_cons.2 (.inl ⟨Int.le_refl _, h1⟩))) (mem_nil _)
 | r :: l, [], ha, _, h => by
  cases ha with
  | cons _ _ h1 h2 h3 => exact absurd ((h r.lo).1 (mem_cons.2 (.inl ⟨Int.le_refl _, h1⟩))) (mem_nil _)
 | r :: l, s :: m, ha, hb, h => by
  have ha' := ha
  have hb' := hb
  cases ha with
  | cons _ _ a1 a2 a3 =>
   cases hb with
   | cons _ _ b1 b2 b3 =>
    have e1 : r.lo = s.lo := by
     have x1 := hb'.low ((h r.lo).1 (mem_cons.2 (.inl ⟨Int.le_refl _, a1⟩)))
     have x2 := ha'.low ((h s.lo).2 (mem_cons.2 (.inl ⟨Int.le_refl _, b1⟩)))
     omega
    have gap : ∀ {r : TRng} {l : List TRng}, (∀ x ∈ l, r.hi + 2 ≤ x.lo) → ¬ mem (r :: l) (r.hi + 1) := by
     intro r l hg hm
     rcases mem_cons.1 hm with hm | ⟨x, hx, hm⟩
     ·omega
     ·have := hg x hx; omega
    have e2 : r.hi = s.hi := by
     rcases Int.lt_trichotomy r.hi s.hi with h4 | h4 | h4
     ·exact absurd ((h (r.hi + 1)).2 (mem_cons.2 (.inl ⟨by omega, by omega⟩))) (gap a2)
     ·exact h4
     ·exact absurd ((h (s.hi + 1)).1 (mem_cons.2 (.inl ⟨by omega, by omega⟩))) (gap b2)
    have e : r = s := by cases r; cases s; simp_all
    subst e
    have : l = m := Can.uniq a3 b3 fun v => by
     have hv := h v
     rw [mem_cons, mem_cons] at hv
     constructor
     ·rintro ⟨x, hx, h5⟩
      rcases hv.1 (.inr ⟨x, hx, h5⟩) with h6 | h6
      ·have := a2 x hx; omega
      ·exact h6
     ·rintro ⟨x, hx, h5⟩
      rcases hv.2 (.inr ⟨x, hx, h5⟩) with h6 | h6
      ·have := b2 x hx; omega
      ·exact h6
    rw [this]
theorem Can.append : ∀ {a b : List TRng}, Can a → Can b → (∀ x ∈ a, ∀ y ∈ b, x.hi + 2 ≤ y.lo) → Can (a ++ b)
 | [], _, _, hb, _ => hb
 | r :: l, b, ha, hb, h => by
  cases ha with
  | cons _ _ a1 a2 a3 =>
   refine .cons r (l ++ b) a1 (fun x hx => ?_) (Can.append a3 hb fun x hx => h x (List.mem_cons_of_mem _ hx))
   rcases List.mem_append.1 hx with hx | hx
   ·exact a2 x hx
   ·exact h r (List.mem_cons_self ..) x hx
theorem Can.one {r : TRng} (h : r.lo ≤ r.hi) : Can [r] := .cons r [] h (by simp) .nil
theorem Can.left : ∀ {a b : List TRng}, Can (a ++ b) → Can a
 | [], _, _ => .nil
 | r :: l, b, h => by
  cases h with
  | cons _ _ a1 a2 a3 => exact .cons r l a1 (fun x hx => a2 x (List.mem_append_left _ hx)) (Can.left a3)
theorem Can.snoc_inv {a : List TRng} {r : TRng} (h : Can (a ++ [r])) : Can a ∧ r.lo ≤ r.hi ∧ ∀ x ∈ a, x.hi + 2 ≤ r.lo := by
 induction a with
 | nil => cases h with | cons _ _ a1 _ _ => exact ⟨.nil, a1, by simp⟩
 | cons s l ih =>
  cases h with
  | cons _ _ a1 a2 a3 =>
   obtain ⟨h1, h2, h3⟩ := ih a3
   refine ⟨.cons s l a1 (fun x hx => a2 x (List.mem_append_left _ hx)) h1, h2, fun x hx => ?_⟩
   rcases List.mem_cons.1 hx with rfl | hx
   ·exact a2 r (by simp)
   ·exact h3 x hx
def mstep (out : List TRng) (r : TRng) : List TRng :=
 match out.getLast? with
 | some q => if r.lo ≤ q.hi + 1 then out.dropLast ++ [⟨q.lo, max q.hi r.hi⟩] else out ++ [r]
 | none => [r]
theorem mstep_nil (r : TRng) : mstep [] r = [r] := rfl
theorem mstep_snoc (a : List TRng) (q r : TRng) : mstep (a ++ [q]) r = if r.lo ≤ q.hi + 1 then a ++ [⟨q.lo, max q.hi r.hi⟩] else a ++ [q] ++ [r] := by
 unfold mstep
 rw [List.getLast?_append]
 simp
theorem mstep_ok {out : List TRng} {r : TRng} (h : Can out) (hr : r.lo ≤ r.hi) (hs : ∀ x ∈ out, x.lo ≤ r.lo) :
  Can (mstep out r) ∧ (∀ v, mem (mstep out r) v ↔ mem out v ∨ (r.lo ≤ v ∧ v ≤ r.hi)) ∧ ∀ x ∈ mstep out r, x.lo ≤ r.lo := by
 rcases List.eq_nil_or_concat out with rfl | ⟨a, q, rfl⟩
 ·rw [mstep_nil]
  exact ⟨.one hr, fun v => by rw [mem_cons]; simp [mem_nil], by simp⟩
 ·rw [List.concat_eq_append] at *
  obtain ⟨h1, h2, h3⟩ := h.snoc_inv
  have hq := hs q (by simp)
  rw [mstep_snoc]
  split
  ·rename_i hle
   refine ⟨Can.append h1 (.one (by show q.lo ≤ max q.hi r.hi; omega)) (fun x hx y hy => by rw [List.mem_singleton] at hy; subst hy; exact h3 x hx), fun v => ?_, fun x hx => ?_⟩
   ·rw [mem_snoc, mem_snoc]
    show mem a v ∨ (q.lo ≤ v ∧ v ≤ max q.hi r.hi) ↔ _
    constructor
    ·rintro (h | h)
     ·exact .inl (.inl h)
     ·by_cases hv : v ≤ q.hi
      ·exact .inl (.inr ⟨h.1, hv⟩)
      ·exact .inr (by omega)
    ·rintro ((h | h) | h)
     ·exact .inl h
     ·exact .inr (by omega)
     ·exact .inr (by omega)
   ·rcases List.mem_append.1 hx with hx | hx
    ·exact hs x (by simp [hx])
    ·rw [List.mem_singleton] at hx; subst hx; exact hq
  ·rename_i hgt
   refine ⟨Can.append h (.one hr) (fun x hx y hy => ?_), fun v => mem_snoc, fun x hx => ?_⟩
   ·rw [List.mem_singleton] at hy; subst hy
    rcases List.mem_append.1 hx with hx | hx
    ·have := h3 x hx; omega
    ·rw [List.mem_singleton] at hx; subst hx; omega
   ·rcases List.mem_append.1 hx with hx | hx
    ·exact hs x hx
    ·rw [List.mem_singleton] at hx; subst hx; exact Int.le_refl _
def mergeAll (d : List TRng) : List TRng := d.foldl mstep []
theorem mergeAll_ok {d : List TRng} (hd : d.Pairwise fun a b => a.lo ≤ b.lo) (hn : ∀ r ∈ d, r.lo ≤ r.hi) : Can (mergeAll d) ∧ ∀ v, mem (mergeAll d) v ↔ mem d v := by
 have key : ∀ (d out : List TRng), (d.Pairwise fun a b => a.lo ≤ b.lo) → (∀ r ∈ d, r.lo ≤ r.hi) → Can out → (∀ x ∈ out, ∀ y ∈ d, x.lo ≤ y.lo) → Can (d.foldl mstep out) ∧ ∀ v, mem (d.foldl mstep out) v ↔ mem out v ∨ mem d v := by
  intro d
  induction d with
  | nil => intro out _ _ h _; exact ⟨h, fun v => by simp [mem_nil]⟩
  | cons r d ih =>
   intro out hp hn h hs
   rw [List.pairwise_cons] at hp
   obtain ⟨h1, h2, h3⟩ := mstep_ok h (hn r (by simp)) (fun x hx => hs x hx r (by simp))
   obtain ⟨h4, h5⟩ := ih (mstep out r) hp.2 (fun x hx => hn x (by simp [hx])) h1 (fun x hx y hy => by have := h3 x hx; have := hp.1 y hy; omega)
   refine ⟨h4, fun v => ?_⟩
   rw [List.foldl_cons, h5, h2, mem_cons, or_assoc]
 obtain ⟨h1, h2⟩ := key d [] hd hn .nil (by simp)
 exact ⟨h1, fun v => by rw [mergeAll, h2]; simp [mem_nil]⟩
def canon (l : List TRng) : List TRng := mergeAll ((l.filter fun r => decide (r.lo ≤ r.hi)).mergeSort fun a b => decide (a.lo ≤ b.lo))
theorem mem_filter {l : List TRng} {v : Int} : mem (l.filter fun r => decide (r.lo ≤ r.hi)) v ↔ mem l v := by
 constructor
 ·rintro ⟨r, hr, h⟩
  exact ⟨r, (List.mem_filter.1 hr).1, h⟩
 ·rintro ⟨r, hr, h⟩
  exact ⟨r, List.mem_filter.2 ⟨hr, by simp; omega⟩, h⟩
theorem mem_perm {a b : List TRng} (h : a.Perm b) (v : Int) : mem a v ↔ mem b v :=
 ⟨fun ⟨r, hr, h1⟩ => ⟨r, h.mem_iff.1 hr, h1⟩, fun ⟨r, hr, h1⟩ => ⟨r, h.mem_iff.2 hr, h1⟩⟩
theorem canon_ok (l : List TRng) : Can (canon l) ∧ ∀ v, mem (canon l) v ↔ mem l v := by
 have hp := List.mergeSort_perm (l.filter fun r => decide (r.lo ≤ r.hi)) (fun a b => decide (a.lo ≤ b.lo))
 obtain ⟨h1, h2⟩ := mergeAll_ok (d := (l.filter fun r : TRng => decide (r.lo ≤ r.hi)).mergeSort fun a b : TRng => decide (a.lo ≤ b.lo))
  ((List.pairwise_mergeSort (le := fun a b : TRng => decide (a.lo ≤ b.lo)) (fun a b c h1 h2 => by simp only [decide_eq_true_eq] at *; omega) (fun a b => by simp only [Bool.or_eq_true, decide_eq_true_eq]; omega) _).imp fun h => by simpa using h)
  (fun r hr => by have := List.mem_filter.1 (hp.mem_iff.1 hr); simpa using this.2)
 exact ⟨h1, fun v => by rw [canon, h2, mem_perm hp, mem_filter]⟩
theorem canon_uniq {a l : List TRng} (h : Can a) (hm : ∀ v, mem a v ↔ mem l v) : a = canon l :=
 h.uniq (canon_ok l).1 fun v => (hm v).trans ((canon_ok l).2 v).symm
theorem merge_canon {d l : List TRng} (hp : d.Perm (l.filter fun r => decide (r.lo ≤ r.hi))) (hd : d.Pairwise fun a b => a.lo ≤ b.lo) : mergeAll d = canon l := by
 obtain ⟨h1, h2⟩ := mergeAll_ok hd (fun r hr => by have := List.mem_filter.1 (hp.mem_iff.1 hr); simpa using this.2)
 exact canon_uniq h1 fun v => by rw [h2, mem_perm hp, mem_filter]
theorem canon_self {l : List TRng} (h : Can l) : canon l = l := (canon_uniq h fun _ => Iff.rfl).symm
def isect (a b : List TRng) : List TRng := canon (a.flatMap fun r => b.map fun s => ⟨max r.lo s.lo, min r.hi s.hi⟩)
theorem isect_mem (a b : List TRng) (v : Int) : mem (isect a b) v ↔ mem a v ∧ mem b v := by
 unfold isect
 rw [(canon_ok _).2]
 constructor
 ·rintro ⟨x, hx, h⟩
  simp only [List.mem_flatMap, List.mem_map] at hx
  obtain ⟨r, hr, s, hs, rfl⟩ := hx
  dsimp only at h
  exact ⟨⟨r, hr, by omega⟩, ⟨s, hs, by omega⟩⟩
 ·rintro ⟨⟨r, hr, h⟩, ⟨s, hs, h'⟩⟩
  exact ⟨⟨max r.lo s.lo, min r.hi s.hi⟩, by simp only [List.mem_flatMap, List.mem_map]; exact ⟨r, hr, s, hs, rfl⟩, by show max r.lo s.lo ≤ v; omega, by show v ≤ min r.hi s.hi; omega⟩
theorem isect_uniq {a b c : List TRng} (h : Can c) (hm : ∀ v, mem c v ↔ mem a v ∧ mem b v) : c = isect a b :=
 h.uniq (canon_ok _).1 fun v => (hm v).trans (isect_mem a b v).symm
end Go.Proofs.YtkaobkjcjodffaaGreatDoor
namespace Go.Proofs
open Go.Shelf
def Tryz.laysSort_ren : Go.Shelf.Ren := ⟨fun | 6 => 204 | 14 => 222 | 15 => 223 | 20 => 231 | 21 => 232 | 22 => 233 | 23 => 234 | 24 => 235 | 25 => 236 | 26 => 237 | 27 => 238 | 28 => 239 | 29 => 212 | 46 => 242 | 47 => 243 | 48 => 244 | 49 => 245 | 50 => 246 | 57 => 247 | n => n, fun | 0 => 0 | 3 => 3 | 4 => 4 | 5 => 5 | 9 => 9 | 22 => 74 | 24 => 85 | 25 => 243 | 39 => 115 | 45 => 263 | 46 => 264 | 50 => 152 | 53 => 79 | 55 => 138 | 66 => 272 | 70 => 276 | 76 => 278 | 77 => 177 | n => n, fun n => n⟩
theorem Tryz.laysSort : Go.Proofs.SlLaysF0.n6 Tryz.prog Tryz.laysSort_ren := {
 mixed := by kernel_rfl
 f6 := ⟨Tryz.f204.name, by kernel_rfl, Tryz.func204.trans (congrArg some (by kernel_rfl))⟩
 f14 := ⟨Tryz.f222.name, by kernel_rfl, Tryz.func222.trans (congrArg some (by kernel_rfl))⟩
 f15 := Tryz.func223.trans (congrArg some (by kernel_rfl))
 f20 := ⟨Tryz.f231.name, by kernel_rfl, Tryz.func231.trans (congrArg some (by kernel_rfl))⟩
 f21 := ⟨Tryz.f232.name, by kernel_rfl, Tryz.func232.trans (congrArg some (by kernel_rfl))⟩
 f22 := ⟨Tryz.f233.name, by kernel_rfl, Tryz.func233.trans (congrArg some (by kernel_rfl))⟩
 f23 := ⟨Tryz.f234.name, by kernel_rfl, Tryz.func234.trans (congrArg some (by kernel_rfl))⟩
 f24 := ⟨Tryz.f235.name, by kernel_rfl, Tryz.func235.trans (congrArg some (by kernel_rfl))⟩
 f25 := ⟨Tryz.f236.name, by kernel_rfl, Tryz.func236.trans (congrArg some (by kernel_rfl))⟩
 f26 := ⟨Tryz.f237.name, by kernel_rfl, Tryz.func237.trans (congrArg some (by kernel_rfl))⟩
 f27 := ⟨Tryz.f238.name, by kernel_rfl, Tryz.func238.trans (congrArg some (by kernel_rfl))⟩
 f28 := Tryz.func239.trans (congrArg some (by kernel_rfl))
 f29 := Tryz.func212.trans (congrArg some (by kernel_rfl))
 f46 := ⟨Tryz.f242.name, by kernel_rfl, Tryz.func242.trans (congrArg some (by kernel_rfl))⟩
 f47 := Tryz.func243.trans (congrArg some (by kernel_rfl))
 f48 := Tryz.func244.trans (congrArg some (by kernel_rfl))
 f49 := ⟨Tryz.f245.name, by kernel_rfl, Tryz.func245.trans (congrArg some (by kernel_rfl))⟩
 f50 := ⟨Tryz.f246.name, by kernel_rfl, Tryz.func246.trans (congrArg some (by kernel_rfl))⟩
 f57 := ⟨Tryz.f247.name, by kernel_rfl, Tryz.func247.trans (congrArg some (by kernel_rfl))⟩
 t0 := Tryz.underlying0
 a0 := Tryz.isAgg0
 z0 := Tryz.sizeOf0
 v0 := Tryz.zeroValue0
 t3 := Tryz.underlying3
 a3 := Tryz.isAgg3
 z3 := Tryz.sizeOf3
 v3 := Tryz.zeroValue3
 t4 := Tryz.underlying4
 a4 := Tryz.isAgg4
 z4 := Tryz.sizeOf4
 v4 := Tryz.zeroValue4
 t5 := Tryz.underlying5
 a5 := Tryz.isAgg5
 z5 := Tryz.sizeOf5
 v5 := Tryz.zeroValue5
 t9 := Tryz.underlying9
 a9 := Tryz.isAgg9
 z9 := Tryz.sizeOf9
 v9 := Tryz.zeroValue9
 t22 := Tryz.underlying74
 a22 := Tryz.isAgg74
 z22 := Tryz.sizeOf74
 v22 := Tryz.zeroValue74
 t25 := Tryz.underlying243
 a25 := Tryz.isAgg243
 z25 := Tryz.sizeOf243
 v25 := Tryz.zeroValue243
 t39 := Tryz.underlying115
 a39 := Tryz.isAgg115
 z39 := Tryz.sizeOf115
 v39 := Tryz.zeroValue115
 t45 := Tryz.underlying263
 a45 := Tryz.isAgg263
 z45 := Tryz.sizeOf263
 v45 := Tryz.zeroValue263
 t46 := Tryz.underlying264
 a46 := Tryz.isAgg264
 z46 := Tryz.sizeOf264
 v46 := Tryz.zeroValue264
 t50 := Tryz.underlying152
 a50 := Tryz.isAgg152
 z50 := Tryz.sizeOf152
 v50 := Tryz.zeroValue152
 t53 := Tryz.underlying79
 a53 := Tryz.isAgg79
 z53 := Tryz.sizeOf79
 v53 := Tryz.zeroValue79
 t55 := Tryz.underlying138
 a55 := Tryz.isAgg138
 z55 := Tryz.sizeOf138
 v55 := Tryz.zeroValue138
 t66 := Tryz.underlying272
 a66 := Tryz.isAgg272
 z66 := Tryz.sizeOf272
 v66 := Tryz.zeroValue272
 t70 := Tryz.underlying276
 a70 := Tryz.isAgg276
 z70 := Tryz.sizeOf276
 v70 := Tryz.zeroValue276
 t76 := Tryz.underlying278
 a76 := Tryz.isAgg278
 z76 := Tryz.sizeOf278
 v76 := Tryz.zeroValue278
 t77 := Tryz.underlying177
 a77 := Tryz.isAgg177
 z77 := Tryz.sizeOf177
 v77 := Tryz.zeroValue177
}
def Tryz.laysGrow_ren : Go.Shelf.Ren := ⟨fun | 4 => 207 | n => n, fun | 0 => 0 | 3 => 3 | 4 => 4 | 9 => 9 | 20 => 20 | 22 => 74 | 25 => 85 | n => n, fun n => n⟩
theorem Tryz.laysGrow : Go.Proofs.Lays8.n4 Tryz.prog Tryz.laysGrow_ren := {
 mixed := by kernel_rfl
 f4 := ⟨Tryz.f207.name, by kernel_rfl, Tryz.func207.trans (congrArg some (by kernel_rfl))⟩
 t0 := Tryz.underlying0
 a0 := Tryz.isAgg0
 z0 := Tryz.sizeOf0
 v0 := Tryz.zeroValue0
 t3 := Tryz.underlying3
 a3 := Tryz.isAgg3
 z3 := Tryz.sizeOf3
 v3 := Tryz.zeroValue3
 t4 := Tryz.underlying4
 a4 := Tryz.isAgg4
 z4 := Tryz.sizeOf4
 v4 := Tryz.zeroValue4
 t9 := Tryz.underlying9
 a9 := Tryz.isAgg9
 z9 := Tryz.sizeOf9
 v9 := Tryz.zeroValue9
 t20 := Tryz.underlying20
 a20 := Tryz.isAgg20
 z20 := Tryz.sizeOf20
 v20 := Tryz.zeroValue20
 t22 := Tryz.underlying74
 a22 := Tryz.isAgg74
 z22 := Tryz.sizeOf74
 v22 := Tryz.zeroValue74
}
end Go.Proofs
