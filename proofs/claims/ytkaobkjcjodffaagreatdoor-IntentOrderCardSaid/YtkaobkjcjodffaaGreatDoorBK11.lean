/-
 What the lines of a text are like.
-/
import Derived.Test.YtkaobkjcjodffaaGreatDoorBK3
import Derived.Test.YtkaobkjcjodffaaGreatDoorBE4
set_option maxHeartbeats 20000000
set_option maxRecDepth 100000
namespace Go.Proofs.YtkaobkjcjodffaaGreatDoor
open Go Go.Pw
section
variable {Gl : Glob}
attribute [local irreducible] PW PWL OpP PCalls PWO PWT bothT
theorem c_idxDef {f : FuncId} (hf : Enters Tryz.prog f) {cs : List PV} (hcs : cs.all (PV.refs (fun _ => false) 5) = true) {xs : List TDef} (hl : Small xs) {p : TDef → Bool} (hp : ∀ x ∈ xs, PCalls Tryz.prog Gl f [eDef x, .ptr 0 0] [.box cs] fun r s => r = .bool (p x) ∧ s = [.box cs]) :
  PCalls Tryz.prog Gl 139 [.sl (xs.map eDef), .fn f [.ptr 0 0]] [.box cs] fun r s => r = .int .i64 (firstAt p xs) ∧ s = [.box cs] := by
 refine PCalls.of hT Tryz.func139 rfl 1 (Nat.le_refl _) fun B hD => ?_
 refine pw_normE rfl ?_
 (refine zGo ?_)
 refine pw_for hD (fun i : Nat => [(8, .int .i64 i)]) (fun _ => [.box cs]) (fun i => i ≤ xs.length ∧ ∀ (j : Nat) d, j < i → xs[j]? = some d → p d = false) (fun i => xs.length - i) 0 ⟨by omega, by intro j d h; omega⟩ 1 rfl (fun _ => rfl) (StLe.refl _) (fun _ => rfl) (fun _ => both rfl (box1 hcs _)) zLe ?_
 rintro i ⟨hi, hno⟩
 unfold Small at hl
 (refine zGo ?_)
 refine pw_cond rfl (fun h => ?_) (fun h => ?_)
 ·simp only [decide_eq_true_eq, List.length_map] at h
  have hlt : i < xs.length := by omega
  (refine zGo ?_)
  (refine pl_op rfl (op_of (v_index (p := eDef xs[i]) hT rfl rfl rfl rfl (by omega) (by simp [hlt]) rfl) ?_); refine pl_normE rfl ?_)
  (refine zGo ?_)
  refine pl_op rfl (op_pred (v := eDef xs[i]) hcs (hp xs[i] (List.getElem_mem hlt)) rfl rfl rfl rfl hf rfl ?_); refine pl_normE rfl ?_
  (refine zGo ?_)
  refine pw_cond rfl (fun h2 => ?_) (fun h2 => ?_)
  ·(refine zGo ?_)
   exact ⟨_, _, _, rfl, ⟨by rw [firstAt_hit hlt h2 hno]; rfl, rfl⟩, .inr (.inl rfl), ⟨.inr (.inl rfl), trivial⟩, rfl, box1 hcs _⟩
  ·(refine zGo ?_)
   refine ⟨i + 1, ⟨by omega, fun j d hj hd => ?_⟩, by omega, zLe, StLe.refl _⟩
   rcases Nat.lt_succ_iff_lt_or_eq.1 hj with hj | rfl
   ·exact hno j d hj hd
   ·rw [List.getElem?_eq_getElem hlt] at hd; cases hd; exact h2
 ·simp only [decide_eq_false_iff_not, List.length_map] at h
  (refine zGo ?_)
  exact ⟨_, _, _, rfl, ⟨by rw [firstAt_miss fun j x hj => hno j x (by have := (List.getElem?_eq_some_iff.1 hj).1; omega) hj]; rfl, rfl⟩, .inr (.inl rfl), ⟨.inr (.inl rfl), trivial⟩, rfl, box1 hcs _⟩
theorem c_find1 (name : Str) (d : TDef) : PCalls Tryz.prog Gl 140 [eDef d, .ptr 0 0] [.box [.str name]] fun r st => r = .bool (d.name == name) ∧ st = [.box [.str name]] := by
 refine PCalls.of hT Tryz.func140 rfl 1 (Nat.le_refl _) fun B hD => ?_
 refine pw_norm rfl ?_
 (refine zGo ?_)
 exact ⟨_, _, _, rfl, ⟨rfl, rfl⟩, .inr (.inl rfl), ⟨.inr (.inl rfl), trivial⟩, rfl, rfl⟩
def findx (l : List TDef) (name : Str) : Int := firstAt (fun d => d.name == name) l
theorem c_find (l : List TDef) (name : Str) (hl : Small l) : PFun Tryz.prog Gl 97 [.sl (l.map eDef), .str name] fun r => r = .int .i64 (findx l name) := by
 refine PFun.of hT Tryz.func97 rfl fun B hD => ?_
 refine pw_norm rfl ?_
 (refine zGo ?_)
 (refine pl_op rfl (zCl [0] e139 (c_idxDef e140 (by rfl) hl fun x _ => c_find1 name x) (fun r s hq => ?_)); obtain ⟨rfl, rfl⟩ := hq; refine ⟨rfl, rfl, ?_⟩; (refine zNp ?_))
 (refine zGo ?_)
 refine ret1 _ rfl rfl rfl
instance (l : List TDef) (name : Str) : ConF Tryz.prog Gl 97 [.sl (l.map eDef), .str name] (Small l) (.int .i64 (findx l name)) := ⟨e97, fun h => c_find l name h⟩
theorem c_idxWin {f : FuncId} (hf : Enters Tryz.prog f) {cs : List PV} (hcs : cs.all (PV.refs (fun _ => false) 5) = true) {xs : List TWin} (hl : Small xs) {p : TWin → Bool} (hp : ∀ x ∈ xs, PCalls Tryz.prog Gl f [eWin x, .ptr 0 0] [.box cs] fun r s => r = .bool (p x) ∧ s = [.box cs]) :
  PCalls Tryz.prog Gl 118 [.sl (xs.map eWin), .fn f [.ptr 0 0]] [.box cs] fun r s => r = .int .i64 (firstAt p xs) ∧ s = [.box cs] := by
 refine PCalls.of hT Tryz.func118 rfl 1 (Nat.le_refl _) fun B hD => ?_
 refine pw_normE rfl ?_
 (refine zGo ?_)
 refine pw_for hD (fun i : Nat => [(8, .int .i64 i)]) (fun _ => [.box cs]) (fun i => i ≤ xs.length ∧ ∀ (j : Nat) d, j < i → xs[j]? = some d → p d = false) (fun i => xs.length - i) 0 ⟨by omega, by intro j d h; omega⟩ 1 rfl (fun _ => rfl) (StLe.refl _) (fun _ => rfl) (fun _ => both rfl (box1 hcs _)) zLe ?_
 rintro i ⟨hi, hno⟩
 unfold Small at hl
 (refine zGo ?_)
 refine pw_cond rfl (fun h => ?_) (fun h => ?_)
 ·simp only [decide_eq_true_eq, List.length_map] at h
  have hlt : i < xs.length := by omega
  (refine zGo ?_)
  (refine pl_op rfl (op_of (v_index (p := eWin xs[i]) hT rfl rfl rfl rfl (by omega) (by simp [hlt]) rfl) ?_); refine pl_normE rfl ?_)
  (refine zGo ?_)
  refine pl_op rfl (op_pred (v := eWin xs[i]) hcs (hp xs[i] (List.getElem_mem hlt)) rfl rfl rfl rfl hf rfl ?_); refine pl_normE rfl ?_
  (refine zGo ?_)
  refine pw_cond rfl (fun h2 => ?_) (fun h2 => ?_)
  ·(refine zGo ?_)
   exact ⟨_, _, _, rfl, ⟨by rw [firstAt_hit hlt h2 hno]; rfl, rfl⟩, .inr (.inl rfl), ⟨.inr (.inl rfl), trivial⟩, rfl, box1 hcs _⟩
  ·(refine zGo ?_)
   refine ⟨i + 1, ⟨by omega, fun j d hj hd => ?_⟩, by omega, zLe, StLe.refl _⟩
   rcases Nat.lt_succ_iff_lt_or_eq.1 hj with hj | rfl
   ·exact hno j d hj hd
   ·rw [List.getElem?_eq_getElem hlt] at hd; cases hd; exact h2
 ·simp only [decide_eq_false_iff_not, List.length_map] at h
  (refine zGo ?_)
  exact ⟨_, _, _, rfl, ⟨by rw [firstAt_miss fun j x hj => hno j x (by have := (List.getElem?_eq_some_iff.1 hj).1; omega) hj]; rfl, rfl⟩, .inr (.inl rfl), ⟨.inr (.inl rfl), trivial⟩, rfl, box1 hcs _⟩
theorem c_window1 (name : Str) (d : TWin) : PCalls Tryz.prog Gl 119 [eWin d, .ptr 0 0] [.box [.str name]] fun r st => r = .bool (d.name == name) ∧ st = [.box [.str name]] := by
 refine PCalls.of hT Tryz.func119 rfl 1 (Nat.le_refl _) fun B hD => ?_
 refine pw_norm rfl ?_
 (refine zGo ?_)
 exact ⟨_, _, _, rfl, ⟨rfl, rfl⟩, .inr (.inl rfl), ⟨.inr (.inl rfl), trivial⟩, rfl, rfl⟩
def windowx (l : List TWin) (name : Str) : Int := firstAt (fun d => d.name == name) l
theorem c_window (l : List TWin) (name : Str) (hl : Small l) : PFun Tryz.prog Gl 69 [.sl (l.map eWin), .str name] fun r => r = .int .i64 (windowx l name) := by
 refine PFun.of hT Tryz.func69 rfl fun B hD => ?_
 refine pw_norm rfl ?_
 (refine zGo ?_)
 (refine pl_op rfl (zCl [0] e118 (c_idxWin e119 (by rfl) hl fun x _ => c_window1 name x) (fun r s hq => ?_)); obtain ⟨rfl, rfl⟩ := hq; refine ⟨rfl, rfl, ?_⟩; (refine zNp ?_))
 (refine zGo ?_)
 refine ret1 _ rfl rfl rfl
instance (l : List TWin) (name : Str) : ConF Tryz.prog Gl 69 [.sl (l.map eWin), .str name] (Small l) (.int .i64 (windowx l name)) := ⟨e69, fun h => c_window l name h⟩
instance (s : Str) : ConF Tryz.prog Gl 102 [.str s] (s.length < 4294967281) (.bool (digitsB s)) := ⟨e102, fun h => c100 s h⟩
instance (s : Str) (a b : Int) : ConF Tryz.prog Gl 101 [.str s, .int .i64 a, .int .i64 b] (s.length < 4294967281 ∧ b ≤ 9223372036854775807) (.tup [.int .i64 (number s a b).1, .bool (number s a b).2]) := ⟨e101, fun h => c103 s a b (by unfold Small; omega) h.2⟩
instance (s : Str) : ConF Tryz.prog Gl 138 [.str s] (GM Gl ∧ s.length < 4294967281) (.tup [ePfx (pfxParse s).1, .bool (pfxParse s).2]) := ⟨e138, fun h => c104 h.1 s h.2⟩
instance (s : Str) : ConF Tryz.prog Gl 104 [.str s] (s.length < 4294967281) (.tup [.int .u32 (addr s).1, .bool (addr s).2]) := ⟨e104, fun h => c129' s (by unfold Small; omega)⟩
theorem portsT_n {s : Str} (h : ¬ (Lib.cut s [45]).2.2 = true) : portsT s = if (number (Lib.cut s [45]).1 0 65535).2 = true ∧ (number (Lib.cut s [45]).1 (number (Lib.cut s [45]).1 0 65535).1 65535).2 = true then (⟨(number (Lib.cut s [45]).1 0 65535).1, (number (Lib.cut s [45]).1 (number (Lib.cut s [45]).1 0 65535).1 65535).1⟩, true) else (rng0, false) := by
 unfold portsT; simp only [if_neg h]
theorem portsT_y {s : Str} (h : (Lib.cut s [45]).2.2 = true) : portsT s = if (number (Lib.cut s [45]).1 0 65535).2 = true ∧ (number (Lib.cut s [45]).2.1 (number (Lib.cut s [45]).1 0 65535).1 65535).2 = true then (⟨(number (Lib.cut s [45]).1 0 65535).1, (number (Lib.cut s [45]).2.1 (number (Lib.cut s [45]).1 0 65535).1 65535).1⟩, true) else (rng0, false) := by
 unfold portsT; simp only [if_pos h]
theorem c_ports (hG : GM Gl) (s : Str) (hs : s.length < 4294967281) : PFun Tryz.prog Gl 105 [.str s] fun r => r = .tup [eRng (portsT s).1, .bool (portsT s).2] := by
 (refine PFun.of hT Tryz.func105 rfl fun B hD => ?_; refine pw_norm rfl ?_)
 have h1 := cut_len1 s [45]
 have h2 := cut_len2 s [45]
 have n1 := number_in (Lib.cut s [45]).1 0 65535 (by omega)
 have n2 := number_in (Lib.cut s [45]).1 (number (Lib.cut s [45]).1 0 65535).1 65535 (by omega)
 have n3 := number_in (Lib.cut s [45]).2.1 (number (Lib.cut s [45]).1 0 65535).1 65535 (by omega)
 (repeat' (first | refine zS ?_ | refine zq5 ?_ | refine zq6 ?_ | (refine zT ?_ ?_ <;> intro h <;> first | exact zX | refine zNq ?_)))
 ·rename_i hf
  rw [portsT_n hf, if_neg (by rintro ⟨a, b⟩; exact h.elim (· a) (· b))]
  exact ret2 _ rfl rfl rfl
 ·rename_i hf
  rw [portsT_n hf, if_pos ⟨Decidable.not_not.1 fun a => h (.inl a), Decidable.not_not.1 fun a => h (.inr a)⟩]
  exact ret2 _ rfl rfl rfl
 ·rename_i hf
  rw [portsT_y (Decidable.not_not.1 hf), if_neg (by rintro ⟨a, b⟩; exact h.elim (· a) (· b))]
  exact ret2 _ rfl rfl rfl
 ·rename_i hf
  rw [portsT_y (Decidable.not_not.1 hf), if_pos ⟨Decidable.not_not.1 fun a => h (.inl a), Decidable.not_not.1 fun a => h (.inr a)⟩]
  exact ret2 _ rfl rfl rfl
instance (s : Str) : ConF Tryz.prog Gl 105 [.str s] (GM Gl ∧ s.length < 4294967281) (.tup [eRng (portsT s).1, .bool (portsT s).2]) := ⟨e105, fun h => c_ports h.1 s h.2⟩
instance (s : Str) (a b : Int) : ConF Tryz.prog Gl 196 [.str s, .int .i64 a, .int .i64 b] (s.length < 4294967281 ∧ b ≤ 9223372036854775807) (.tup [.int .i64 (number s a b).1, .bool (number s a b).2]) := ⟨e196, fun h => c137 s a b (by unfold Small; omega) h.2⟩
instance (s : Str) : ConF Tryz.prog Gl 195 [.str s] (s.length < 4294967281) (.bool (digitsB s)) := ⟨e195, fun h => c134 s (by unfold Small; omega)⟩
instance (s : Str) : ConF Tryz.prog Gl 194 [.str s] (s.length < 4294967281) (.tup [ePfx (pfxParse s).1, .bool (pfxParse s).2]) := ⟨e194, fun h => c120 s (by unfold Small; omega)⟩
instance (s : Str) : ConF Tryz.prog Gl 167 [.str s] (s.length < 4294967281) (.tup [.int .u32 (addr s).1, .bool (addr s).2]) := ⟨e167, fun h => c135 s (by unfold Small; omega)⟩
theorem part_lenD (c : UInt8) (s : Str) (i : Nat) : ((parts c s).getD i []).length ≤ s.length := by
 rw [List.getD]
 cases h : (parts c s)[i]? with
 | none => simp
 | some x => exact part_len' c s x (List.mem_of_getElem? h)
theorem c_rports (s : Str) (hs : s.length < 4294967281) : PFun Tryz.prog Gl 168 [.str s] fun r => r = .tup [eRng (portsT s).1, .bool (portsT s).2] := by
 (refine PFun.of hT Tryz.func168 rfl fun B hD => ?_; refine pw_norm rfl ?_)
 have hp := parts_pos 45 s
 have hp2 := parts_small 45 s
 have l0 := part_lenD 45 s 0
 have l1 := part_lenD 45 s ((parts 45 s).length - 1)
 have n1 := number_in ((parts 45 s).getD 0 []) 0 65535 (by omega)
 have n2 := number_in ((parts 45 s).getD ((parts 45 s).length - 1) []) 0 65535 (by omega)
 rw [← rports_eq]
 unfold rports
 (repeat' (first | refine zS ?_ | refine zq5 ?_ | refine zq6 ?_ | (refine zT ?_ ?_ <;> intro h <;> first | exact zX | refine zNq ?_)))
 ·rw [if_pos (by omega)]
  exact ret2 _ rfl rfl rfl
 ·rename_i h0
  rw [if_neg (by omega), if_pos (by
   rcases h with (h | h) | h
   ·exact .inl (by simpa using h)
   ·exact .inr (.inl (by simpa using h))
   ·exact .inr (.inr h))]
  exact ret2 _ rfl rfl rfl
 ·rename_i h0
  rw [if_neg (by omega), if_neg (by
   rintro (g | g | g)
   ·exact h (.inl (.inl (by rw [g]; exact Bool.false_ne_true)))
   ·exact h (.inl (.inr (by rw [g]; exact Bool.false_ne_true)))
   ·exact h (.inr g))]
  exact ret2 _ rfl rfl rfl
instance (s : Str) : ConF Tryz.prog Gl 168 [.str s] (s.length < 4294967281) (.tup [eRng (portsT s).1, .bool (portsT s).2]) := ⟨e168, fun h => c_rports s h⟩
instance (ws : List Str) : ConF Tryz.prog Gl 161 [.sl (ws.map .str)] (ws.length < 1000000) (.tup [.sl ((itemsT ws).1.map rowS), .bool (itemsT ws).2]) := ⟨e161, fun h => c_ritems ws h⟩
end
section
def item0 : TItem := ⟨0, [], pfx0, 0, rng0⟩
def rdItem (w : List Str) (sv : Bool) : TItem × Bool × Bool :=
 if sv = true ∧ formB w [[105, 99, 109, 112]] = true then (⟨4, [], pfx0, 1, ⟨8, 8⟩⟩, true, true) else
 if ¬ (w.length : Int) = 2 then (item0, false, false) else
 if sv = true ∧ (w.getD 0 [] = [116, 99, 112] ∨ w.getD 0 [] = [117, 100, 112]) then (⟨4, [], pfx0, if w.getD 0 [] = [117, 100, 112] then 17 else 6, (portsT (w.getD 1 [])).1⟩, (portsT (w.getD 1 [])).2, (portsT (w.getD 1 [])).2) else
 if sv = true ∧ w.getD 0 [] = [112, 114, 111, 116, 111] then (⟨4, [], pfx0, (number (w.getD 1 []) 0 255).1, rng0⟩, digitsB (w.getD 1 []), (((number (w.getD 1 []) 0 255).2 && (number (w.getD 1 []) 0 255).1 != 1) && (number (w.getD 1 []) 0 255).1 != 6) && (number (w.getD 1 []) 0 255).1 != 17) else
 if (sv = true ∧ w.getD 0 [] = [115, 101, 114, 118, 105, 99, 101]) ∨ ¬ sv = true ∧ w.getD 0 [] = [103, 114, 111, 117, 112] then (⟨3, w.getD 1 [], pfx0, 0, rng0⟩, vname (w.getD 1 []), true) else
 if ¬ sv = true ∧ w.getD 0 [] = [122, 111, 110, 101] then (⟨1, w.getD 1 [], pfx0, 0, rng0⟩, vname (w.getD 1 []), true) else
 if ¬ sv = true ∧ w.getD 0 [] = [115, 117, 98, 110, 101, 116] then (⟨2, [], (pfxParse (w.getD 1 [])).1, 0, rng0⟩, (pfxParse (w.getD 1 [])).2, (pfxParse (w.getD 1 [])).2) else
 (item0, false, false)
abbrev eItemR (x : TItem × Bool × Bool) : PV := .tup [eItem x.1, .bool x.2.1, .bool x.2.2]
def pDef (l : List TDef) (w : List Str) (sv : Bool) : Int × List TDef :=
 if ((w.length : Int) < 3 ∨ ¬ vname (w.getD 1 []) = true) ∨ ¬ w.getD 2 [] = [61] then (4, l) else
 if ¬ (itemsT (w.drop 3)).2 = true then (4, l) else
 if ¬ (itemsT (w.drop 3)).1.all (fun x => (rdItem x sv).2.1) = true then (4, l) else
 if ¬ (itemsT (w.drop 3)).1.all (fun x => (rdItem x sv).2.2) = true then (2, l) else
 if 16 < (itemsT (w.drop 3)).1.length then (3, l) else
 if 0 ≤ firstAt (fun d => d.name == w.getD 1 []) l then (6, l) else
 if 32 ≤ l.length then (3, l) else (0, l ++ [⟨w.getD 1 [], (itemsT (w.drop 3)).1.map fun x => (rdItem x sv).1⟩])
variable {Gl : Glob}
attribute [local irreducible] PW PWL OpP PCalls PWO formB PWT bothT
theorem c_formI (w p : List Str) (hl : Small w) (hp : ∀ b ∈ p, ¬ b = []) : PFun Tryz.prog Gl 103 [.sl (w.map .str), .sl (p.map .str)] fun r => r = .bool (formB w p) := c99 w p hl hp
instance (w : List Str) : ConF Tryz.prog Gl 103 [.sl (w.map .str), .sl [.str [105, 99, 109, 112]]] (w.length < 1000000) (.bool (formB w [[105, 99, 109, 112]])) := ⟨e103, fun h => c_formI w [[105, 99, 109, 112]] (by unfold Small; omega) (by decide)⟩
theorem c_readItem (hG : GM Gl) (w : List Str) (sv : Bool) (hl : w.length < 1000000) (hw : ∀ k, (w.getD k []).length < 4294967281) : PFun Tryz.prog Gl 96 [.sl (w.map .str), .bool sv] fun r => r = eItemR (rdItem w sv) := by
 (refine PFun.of hT Tryz.func96 rfl fun B hD => ?_; refine pw_norm rfl ?_)
 have h0 := hw 0
 have h1 := hw 1
 (refine zGo ?_)
 (refine pl_and 4 18 22 (formB w [[105, 99, 109, 112]]) rfl rfl rfl (fun hb => ?_) (fun hb => ?_) ?_; (focus ((refine zNp ?_); (refine zGo ?_); (refine pl_on rfl rfl (op_litF hT rfl rfl rfl rfl rfl (by decide) rfl rfl rfl rfl ?_); (refine zNp ?_)); (refine pl_on rfl rfl (op_fun (c_formI w [[105, 99, 109, 112]] (by unfold Small; omega) (by decide)) rfl rfl e103 zLe rfl (fun r hr => ?_)); subst hr; refine ⟨rfl, ?_⟩; (refine zNp ?_)); (refine zGo ?_); exact ⟨zLe, StLe.refl _⟩)); (focus ((refine zNp ?_); (refine zGo ?_); exact ⟨zLe, StLe.refl _⟩)); (refine zNp ?_); (refine zGo ?_))
 (repeat' (first | (refine zDr [[0,1,2,3,4,5,6,7]] ?_; refine zDn ?_) | refine zS ?_ | refine zD ?_ | refine po_both ?_ ?_ | refine pwt_both ?_ ?_ | refine pwt_fork ?_ | refine pwt_lin ?_ | (refine po_test rfl rfl rfl rfl zB ?_ ?_ <;> intro hb <;> first | exact zX | refine zDn ?_) | refine zq5 ?_ | refine zq6 ?_ | (refine zT ?_ ?_ <;> intro h <;> first | exact zX | refine zNq ?_)))
 ·rw [show rdItem w sv = (⟨4, [], pfx0, 1, ⟨8, 8⟩⟩, true, true) from by unfold rdItem; (repeat (first | refine (if_pos (by assumption)).trans ?_ | refine (if_neg (by assumption)).trans ?_)); rfl]
  exact ret2 _ rfl rfl rfl
 ·rw [show rdItem w sv = (item0, false, false) from by unfold rdItem; (repeat (first | refine (if_pos (by assumption)).trans ?_ | refine (if_neg (by assumption)).trans ?_)); rfl]
  exact ret2 _ rfl rfl rfl
 ·rw [show rdItem w sv = (⟨4, [], pfx0, 17, (portsT (w.getD 1 [])).1⟩, (portsT (w.getD 1 [])).2, (portsT (w.getD 1 [])).2) from by unfold rdItem; rw [if_pos h]; (repeat (first | refine (if_pos (by assumption)).trans ?_ | refine (if_neg (by assumption)).trans ?_)); rfl]
  exact ret2 _ rfl rfl rfl
 ·rw [show rdItem w sv = (⟨4, [], pfx0, 6, (portsT (w.getD 1 [])).1⟩, (portsT (w.getD 1 [])).2, (portsT (w.getD 1 [])).2) from by unfold rdItem; rw [if_neg h]; (repeat (first | refine (if_pos (by assumption)).trans ?_ | refine (if_neg (by assumption)).trans ?_)); rfl]
  exact ret2 _ rfl rfl rfl
 ·rw [show rdItem w sv = (⟨4, [], pfx0, (number (w.getD 1 []) 0 255).1, rng0⟩, digitsB (w.getD 1 []), (((number (w.getD 1 []) 0 255).2 && (number (w.getD 1 []) 0 255).1 != 1) && (number (w.getD 1 []) 0 255).1 != 6) && (number (w.getD 1 []) 0 255).1 != 17) from by unfold rdItem; (repeat (first | refine (if_pos (by assumption)).trans ?_ | refine (if_neg (by assumption)).trans ?_)); rfl]
  exact ret2 _ rfl rfl rfl
 ·rw [show rdItem w sv = (⟨3, w.getD 1 [], pfx0, 0, rng0⟩, vname (w.getD 1 []), true) from by unfold rdItem; (repeat (first | refine (if_pos (by assumption)).trans ?_ | refine (if_neg (by assumption)).trans ?_)); rfl]
  exact ret2 _ rfl rfl rfl
 ·rw [show rdItem w sv = (⟨1, w.getD 1 [], pfx0, 0, rng0⟩, vname (w.getD 1 []), true) from by unfold rdItem; (repeat (first | refine (if_pos (by assumption)).trans ?_ | refine (if_neg (by assumption)).trans ?_)); rfl]
  exact ret2 _ rfl rfl rfl
 ·rw [show rdItem w sv = (⟨2, [], (pfxParse (w.getD 1 [])).1, 0, rng0⟩, (pfxParse (w.getD 1 [])).2, (pfxParse (w.getD 1 [])).2) from by unfold rdItem; (repeat (first | refine (if_pos (by assumption)).trans ?_ | refine (if_neg (by assumption)).trans ?_)); rfl]
  exact ret2 _ rfl rfl rfl
 ·rw [show rdItem w sv = (item0, false, false) from by unfold rdItem; (repeat (first | refine (if_pos (by assumption)).trans ?_ | refine (if_neg (by assumption)).trans ?_)); rfl]
  exact ret2 _ rfl rfl rfl
instance (w : List Str) (sv : Bool) : ConF Tryz.prog Gl 96 [.sl (w.map .str), .bool sv] (GM Gl ∧ w.length < 1000000 ∧ ∀ k, (w.getD k []).length < 4294967281) (eItemR (rdItem w sv)) := ⟨e96, fun h => c_readItem h.1 w sv h.2.1 h.2.2⟩
attribute [local irreducible] vname digitsB
abbrev ICaps := Nat × Nat × Nat × Nat × Nat × Nat
def ist (i : TInt) (c : ICaps) : List PObj := [.box [.msl 2 1 0 (i.groups.map eDef).length c.1, .msl 2 2 0 (i.services.map eDef).length c.2.1, .msl 2 3 0 (i.windows.map eWin).length c.2.2.1, .msl 10 4 0 (i.stms.map eStm).length c.2.2.2.1, .msl 6 5 0 (i.pubs.map ePub).length c.2.2.2.2.1, .msl 5 6 0 (i.hids.map eHid).length c.2.2.2.2.2],
 .arr 2 (i.groups.map eDef) c.1, .arr 2 (i.services.map eDef) c.2.1, .arr 2 (i.windows.map eWin) c.2.2.1, .arr 10 (i.stms.map eStm) c.2.2.2.1, .arr 6 (i.pubs.map ePub) c.2.2.2.2.1, .arr 5 (i.hids.map eHid) c.2.2.2.2.2]
theorem items_ok {w : List Str} (hw : WOk w) (n : Nat) : (∀ s ∈ (itemsT (w.drop n)).1, ∀ k, (s.getD k []).length < 4294967281) ∧ ∀ s ∈ (itemsT (w.drop n)).1, s.length ≤ w.length := by
 unfold itemsT
 split
 ·refine ⟨fun s hs k => ?_, fun s hs => segGo_width (w.drop n) [] [] w.length (by simp) (by simp) s hs⟩
  have := segGo_each (fun x => x.length < 4294967281) (w.drop n) [] [] (by simp) (by simp) (fun x hx => hw.each x (List.mem_of_mem_drop hx)) s hs
  rw [List.getD]
  cases h : s[k]? with
  | none => simp
  | some x => exact this x (List.mem_of_getElem? h)
 ·exact ⟨by simp, by simp⟩
theorem items_len (w : List Str) : (itemsT w).1.length ≤ w.length + 1 := by
 unfold itemsT
 split
 ·have := segGo_len w [] []
  simp only [List.length_nil] at this
  show (segGo w [] []).length ≤ _
  omega
 ·simp
theorem take_all {α : Type} {p : α → Bool} {l : List α} {k : Nat} [Inhabited α] (h : k < l.length) : (l.take (k + 1)).all p = ((l.take k).all p && p (l.getD k default)) := by
 rw [List.take_succ_eq_append_getElem h, List.all_append, List.getD, List.getElem?_eq_getElem h]; simp
theorem take_map {α β : Type} {f : α → β} {l : List α} {k : Nat} [Inhabited α] (h : k < l.length) : (l.take (k + 1)).map f = (l.take k).map f ++ [f (l.getD k default)] := by
 rw [List.take_succ_eq_append_getElem h, List.map_append, List.getD, List.getElem?_eq_getElem h]; rfl
theorem c_defineG (hG : GM Gl) (i : TInt) (hi : i.groups.length ≤ 32) (c : ICaps) (w : List Str) (sv : Bool) (hw : WOk w) (hl : w.length ≤ 1000) : PCalls Tryz.prog Gl 46 [.ptr 0 0, .sl (w.map .str), .bool sv] (ist i c) fun r s => ∃ c', r = .int .i64 (pDef i.groups w sv).1 ∧ s = ist { i with groups := (pDef i.groups w sv).2 } c' := by
 refine PCalls.of hT Tryz.func46 rfl 7 (Nat.le_refl _) fun B hD => ?_
 refine pw_norm rfl ?_
 have hdl : (w.drop 3).length ≤ 1000 := by rw [List.length_drop]; omega
 have hlg : (i.groups.map eDef).length = i.groups.length := List.length_map ..
 (repeat' (first | refine zS ?_ | refine zq5 ?_ | refine zq6 ?_ | (refine zT ?_ ?_ <;> intro h <;> first | exact zX | refine zNq ?_)))
 ·rw [show pDef i.groups w sv = (4, i.groups) from by unfold pDef; (repeat (first | refine (if_pos (by assumption)).trans ?_ | refine (if_neg (by assumption)).trans ?_)); rfl]
  exact ⟨_, _, _, rfl, ⟨c, rfl, rfl⟩, .inr (.inl rfl), zF, rfl, rfl⟩
 ·rw [show pDef i.groups w sv = (4, i.groups) from by unfold pDef; (repeat (first | refine (if_pos (by assumption)).trans ?_ | refine (if_neg (by assumption)).trans ?_)); rfl]
  exact ⟨_, _, _, rfl, ⟨c, rfl, rfl⟩, .inr (.inl rfl), zF, rfl, rfl⟩
 rename_i g0
 have hok := Decidable.not_not.1 h
 have hT1 := (items_ok hw 3).1
 have hT2 := (items_ok hw 3).2
 have hT3 := items_len (w.drop 3)
 have hpd : pDef i.groups w sv = if ¬ (itemsT (w.drop 3)).1.all (fun x => (rdItem x sv).2.1) = true then (4, i.groups) else
   if ¬ (itemsT (w.drop 3)).1.all (fun x => (rdItem x sv).2.2) = true then (2, i.groups) else if 16 < (itemsT (w.drop 3)).1.length then (3, i.groups) else
   if 0 ≤ firstAt (fun d => d.name == w.getD 1 []) i.groups then (6, i.groups) else if 32 ≤ i.groups.length then (3, i.groups) else (0, i.groups ++ [⟨w.getD 1 [], (itemsT (w.drop 3)).1.map fun x => (rdItem x sv).1⟩]) := by
  unfold pDef
  rw [if_neg g0, if_neg (by rw [hok]; simp)]
 rw [hpd]
 generalize (itemsT (w.drop 3)).1 = T at hT1 hT2 hT3 ⊢
 clear hpd
 have hml : (T.map fun x => (rdItem x sv).1).length = T.length := List.length_map ..
 refine pw_ghost 7 ?_
 refine zNq ?_
 refine pw_for hD (fun a : Nat × Nat => [(10, .bool ((T.take a.1).all fun x => (rdItem x sv).2.2)), (46, .int .i64 a.1)]) (fun a => ist i c ++ [.box [.str (w.getD 1 []), .msl 7 8 0 (((T.take a.1).map fun x => (rdItem x sv).1).map eItem).length a.2], .arr 7 (((T.take a.1).map fun x => (rdItem x sv).1).map eItem) a.2])
  (fun a => a.1 ≤ T.length ∧ (T.take a.1).all (fun x => (rdItem x sv).2.1) = true) (fun a => T.length - a.1) (0, 0) ⟨Nat.zero_le _, rfl⟩ 9 rfl (fun _ => rfl)
  ?_ (fun _ => rfl) (fun _ => rfl) zLe ?_
 ·show StLe (ist i c ++ [.box [.str (w.getD 1 []), .nilsl], .arr 7 [] 0]) _
  exact ⟨.inl rfl, .inl rfl, .inl rfl, .inl rfl, .inl rfl, .inl rfl, .inl rfl, .inr (.inr ⟨_, _, rfl, rfl, zLe⟩), .inl rfl, trivial⟩
 rintro ⟨k, cap⟩ ⟨hk, hall⟩
 dsimp only at hk hall ⊢
 unfold ist
 refine zNq ?_
 have hrow : ∀ n, ((T.getD k default).getD n []).length < 4294967281 := fun n => by
  rw [@List.getD_eq_getElem?_getD _ T]
  cases h : T[k]? with
  | none => show (([] : List Str).getD n []).length < _; simp
  | some x => exact hT1 x (List.mem_of_getElem? h) n
 have hrow2 : (T.getD k default).length ≤ w.length := by
  rw [@List.getD_eq_getElem?_getD _ T]
  cases h : T[k]? with
  | none => exact Nat.zero_le _
  | some x => exact hT2 x (List.mem_of_getElem? h)
 have htl : (T.take k).length ≤ k := List.length_take_le ..
 (repeat' (first | refine zS ?_ | refine zq5 ?_ | refine zq6 ?_ | (refine zT ?_ ?_ <;> intro h <;> first | exact zX | refine zNq ?_)))
 ·have hkT : k < T.length := by omega
  rw [if_pos (by rw [List.all_eq_true]; intro hh; exact h (hh _ (by rw [List.getD, List.getElem?_eq_getElem hkT]; exact List.getElem_mem hkT)))]
  exact ⟨_, _, _, rfl, ⟨c, rfl, rfl⟩, .inr (.inl rfl), zF, rfl, rfl⟩
 ·have hkT : k < T.length := by omega
  have hf := Decidable.not_not.1 h
  (refine pl_append (b := 56) hT hD rfl rfl rfl rfl rfl rfl rfl rfl (.inl (Nat.zero_lt_succ _)) rfl rfl (by simp; omega) (fun cap' _ hcap => ?_); (refine zNp ?_))
  (repeat' (first | refine zS ?_ | refine zq5 ?_ | refine zq6 ?_ | (refine zT ?_ ?_ <;> intro h <;> first | exact zX | refine zNq ?_)))
  refine ⟨(k + 1, cap'), ⟨hkT, by rw [take_all hkT, hall, hf]; rfl⟩, by dsimp only; omega, ?_, ?_⟩
  all_goals simp only [take_map hkT, take_all hkT, List.length_append, List.map_append, List.map_cons, List.map_nil]
  ·(exact zLe)
  ·exact ⟨.inl rfl, .inl rfl, .inl rfl, .inl rfl, .inl rfl, .inl rfl, .inl rfl, .inl rfl, .inl rfl, trivial⟩
 all_goals
  obtain rfl : k = T.length := by omega
  simp only [List.take_length] at *
  rw [if_neg (by rw [hall]; simp)]
 ·rw [if_pos h]
  exact ⟨_, _, _, rfl, ⟨c, rfl, rfl⟩, .inr (.inl rfl), zF, rfl, rfl⟩
 ·rename_i g1
  rw [if_neg g1, if_pos (by omega)]
  exact ⟨_, _, _, rfl, ⟨c, rfl, rfl⟩, .inr (.inl rfl), zF, rfl, rfl⟩
 rename_i g1
 rw [if_neg g1, if_neg (by omega)]
 refine pw_frzB 8 7 (cs1 := [.str (w.getD 1 [])]) (cs2 := []) rfl rfl rfl (by decide) ?_
 refine pw_normV rfl ?_
 refine zNq ?_
 have hsm : Small i.groups := by unfold Small; omega
 (repeat' (first | (refine zDr [[0,1,2,3,4],[5],[6,7]] ?_; refine zDn ?_) | (refine zDr [[0,1,2,3,4,5],[6],[7],[8]] ?_; refine zDn ?_) | refine zS ?_ | refine zD ?_ | refine po_both ?_ ?_ | refine pwt_both ?_ ?_ | refine pwt_fork ?_ | refine pwt_lin ?_ | (refine po_test rfl rfl rfl rfl zB ?_ ?_ <;> intro hb <;> first | exact zX | refine zDn ?_) | refine zq5 ?_ | refine zq6 ?_ | (refine zT ?_ ?_ <;> intro h <;> first | exact zX | refine zNq ?_)))
 ·rw [if_pos (show 0 ≤ firstAt (fun d : TDef => d.name == w.getD 1 []) i.groups from h)]
  exact ⟨_, _, _, rfl, ⟨c, rfl, rfl⟩, .inr (.inl rfl), zF, rfl, rfl⟩
 ·rename_i g2
  rw [if_neg (show ¬ 0 ≤ firstAt (fun d : TDef => d.name == w.getD 1 []) i.groups from g2), if_pos (by omega)]
  exact ⟨_, _, _, rfl, ⟨c, rfl, rfl⟩, .inr (.inl rfl), zF, rfl, rfl⟩
 ·rename_i g2
  rw [if_neg (show ¬ 0 ≤ firstAt (fun d : TDef => d.name == w.getD 1 []) i.groups from g2), if_neg (by omega)]
  (refine po_step rfl rfl (op_append (b := 40) hT rfl rfl rfl rfl rfl rfl (.inl (Nat.zero_lt_succ _)) rfl rfl (by simp; omega) (fun cap' _ hcap => ⟨zLok, ?_⟩)); refine zDn ?_)
  refine zD ?_
  (refine pw_mv 1 9 hD rfl rfl rfl rfl rfl ?_; refine pw_norm rfl ?_)
  (repeat' (first | refine zS ?_ | refine zq5 ?_ | refine zq6 ?_ | (refine zT ?_ ?_ <;> intro h <;> first | exact zX | refine zNq ?_)))
  refine ⟨_, _, _, rfl, ⟨(cap' , c.2), rfl, rfl⟩, .inr (.inl rfl), ?_, rfl, rfl⟩
  simp only [List.map_append, List.length_append]
  exact zF
theorem c_defineS (hG : GM Gl) (i : TInt) (hi : i.services.length ≤ 32) (c : ICaps) (w : List Str) (sv : Bool) (hw : WOk w) (hl : w.length ≤ 1000) : PCalls Tryz.prog Gl 46 [.ptr 0 1, .sl (w.map .str), .bool sv] (ist i c) fun r s => ∃ c', r = .int .i64 (pDef i.services w sv).1 ∧ s = ist { i with services := (pDef i.services w sv).2 } c' := by
 refine PCalls.of hT Tryz.func46 rfl 7 (Nat.le_refl _) fun B hD => ?_
 refine pw_norm rfl ?_
 have hdl : (w.drop 3).length ≤ 1000 := by rw [List.length_drop]; omega
 have hlg : (i.services.map eDef).length = i.services.length := List.length_map ..
 (repeat' (first | refine zS ?_ | refine zq5 ?_ | refine zq6 ?_ | (refine zT ?_ ?_ <;> intro h <;> first | exact zX | refine zNq ?_)))
 ·rw [show pDef i.services w sv = (4, i.services) from by unfold pDef; (repeat (first | refine (if_pos (by assumption)).trans ?_ | refine (if_neg (by assumption)).trans ?_)); rfl]
  exact ⟨_, _, _, rfl, ⟨c, rfl, rfl⟩, .inr (.inl rfl), zF, rfl, rfl⟩
 ·rw [show pDef i.services w sv = (4, i.services) from by unfold pDef; (repeat (first | refine (if_pos (by assumption)).trans ?_ | refine (if_neg (by assumption)).trans ?_)); rfl]
  exact ⟨_, _, _, rfl, ⟨c, rfl, rfl⟩, .inr (.inl rfl), zF, rfl, rfl⟩
 rename_i g0
 have hok := Decidable.not_not.1 h
 have hT1 := (items_ok hw 3).1
 have hT2 := (items_ok hw 3).2
 have hT3 := items_len (w.drop 3)
 have hpd : pDef i.services w sv = if ¬ (itemsT (w.drop 3)).1.all (fun x => (rdItem x sv).2.1) = true then (4, i.services) else
   if ¬ (itemsT (w.drop 3)).1.all (fun x => (rdItem x sv).2.2) = true then (2, i.services) else if 16 < (itemsT (w.drop 3)).1.length then (3, i.services) else
   if 0 ≤ firstAt (fun d => d.name == w.getD 1 []) i.services then (6, i.services) else if 32 ≤ i.services.length then (3, i.services) else (0, i.services ++ [⟨w.getD 1 [], (itemsT (w.drop 3)).1.map fun x => (rdItem x sv).1⟩]) := by
  unfold pDef
  rw [if_neg g0, if_neg (by rw [hok]; simp)]
 rw [hpd]
 generalize (itemsT (w.drop 3)).1 = T at hT1 hT2 hT3 ⊢
 clear hpd
 have hml : (T.map fun x => (rdItem x sv).1).length = T.length := List.length_map ..
 refine pw_ghost 7 ?_
 refine zNq ?_
 refine pw_for hD (fun a : Nat × Nat => [(10, .bool ((T.take a.1).all fun x => (rdItem x sv).2.2)), (46, .int .i64 a.1)]) (fun a => ist i c ++ [.box [.str (w.getD 1 []), .msl 7 8 0 (((T.take a.1).map fun x => (rdItem x sv).1).map eItem).length a.2], .arr 7 (((T.take a.1).map fun x => (rdItem x sv).1).map eItem) a.2])
  (fun a => a.1 ≤ T.length ∧ (T.take a.1).all (fun x => (rdItem x sv).2.1) = true) (fun a => T.length - a.1) (0, 0) ⟨Nat.zero_le _, rfl⟩ 9 rfl (fun _ => rfl)
  ?_ (fun _ => rfl) (fun _ => rfl) zLe ?_
 ·show StLe (ist i c ++ [.box [.str (w.getD 1 []), .nilsl], .arr 7 [] 0]) _
  exact ⟨.inl rfl, .inl rfl, .inl rfl, .inl rfl, .inl rfl, .inl rfl, .inl rfl, .inr (.inr ⟨_, _, rfl, rfl, zLe⟩), .inl rfl, trivial⟩
 rintro ⟨k, cap⟩ ⟨hk, hall⟩
 dsimp only at hk hall ⊢
 unfold ist
 refine zNq ?_
 have hrow : ∀ n, ((T.getD k default).getD n []).length < 4294967281 := fun n => by
  rw [@List.getD_eq_getElem?_getD _ T]
  cases h : T[k]? with
  | none => show (([] : List Str).getD n []).length < _; simp
  | some x => exact hT1 x (List.mem_of_getElem? h) n
 have hrow2 : (T.getD k default).length ≤ w.length := by
  rw [@List.getD_eq_getElem?_getD _ T]
  cases h : T[k]? with
  | none => exact Nat.zero_le _
  | some x => exact hT2 x (List.mem_of_getElem? h)
 have htl : (T.take k).length ≤ k := List.length_take_le ..
 (repeat' (first | refine zS ?_ | refine zq5 ?_ | refine zq6 ?_ | (refine zT ?_ ?_ <;> intro h <;> first | exact zX | refine zNq ?_)))
 ·have hkT : k < T.length := by omega
  rw [if_pos (by rw [List.all_eq_true]; intro hh; exact h (hh _ (by rw [List.getD, List.getElem?_eq_getElem hkT]; exact List.getElem_mem hkT)))]
  exact ⟨_, _, _, rfl, ⟨c, rfl, rfl⟩, .inr (.inl rfl), zF, rfl, rfl⟩
 ·have hkT : k < T.length := by omega
  have hf := Decidable.not_not.1 h
  (refine pl_append (b := 56) hT hD rfl rfl rfl rfl rfl rfl rfl rfl (.inl (Nat.zero_lt_succ _)) rfl rfl (by simp; omega) (fun cap' _ hcap => ?_); (refine zNp ?_))
  (repeat' (first | refine zS ?_ | refine zq5 ?_ | refine zq6 ?_ | (refine zT ?_ ?_ <;> intro h <;> first | exact zX | refine zNq ?_)))
  refine ⟨(k + 1, cap'), ⟨hkT, by rw [take_all hkT, hall, hf]; rfl⟩, by dsimp only; omega, ?_, ?_⟩
  all_goals simp only [take_map hkT, take_all hkT, List.length_append, List.map_append, List.map_cons, List.map_nil]
  ·(exact zLe)
  ·exact ⟨.inl rfl, .inl rfl, .inl rfl, .inl rfl, .inl rfl, .inl rfl, .inl rfl, .inl rfl, .inl rfl, trivial⟩
 all_goals
  obtain rfl : k = T.length := by omega
  simp only [List.take_length] at *
  rw [if_neg (by rw [hall]; simp)]
 ·rw [if_pos h]
  exact ⟨_, _, _, rfl, ⟨c, rfl, rfl⟩, .inr (.inl rfl), zF, rfl, rfl⟩
 ·rename_i g1
  rw [if_neg g1, if_pos (by omega)]
  exact ⟨_, _, _, rfl, ⟨c, rfl, rfl⟩, .inr (.inl rfl), zF, rfl, rfl⟩
 rename_i g1
 rw [if_neg g1, if_neg (by omega)]
 refine pw_frzB 8 7 (cs1 := [.str (w.getD 1 [])]) (cs2 := []) rfl rfl rfl (by decide) ?_
 refine pw_normV rfl ?_
 refine zNq ?_
 have hsm : Small i.services := by unfold Small; omega
 (repeat' (first | (refine zDr [[0,1,2,3,4],[5],[6,7]] ?_; refine zDn ?_) | (refine zDr [[0,1,2,3,4,5],[6],[7],[8]] ?_; refine zDn ?_) | refine zS ?_ | refine zD ?_ | refine po_both ?_ ?_ | refine pwt_both ?_ ?_ | refine pwt_fork ?_ | refine pwt_lin ?_ | (refine po_test rfl rfl rfl rfl zB ?_ ?_ <;> intro hb <;> first | exact zX | refine zDn ?_) | refine zq5 ?_ | refine zq6 ?_ | (refine zT ?_ ?_ <;> intro h <;> first | exact zX | refine zNq ?_)))
 ·rw [if_pos (show 0 ≤ firstAt (fun d : TDef => d.name == w.getD 1 []) i.services from h)]
  exact ⟨_, _, _, rfl, ⟨c, rfl, rfl⟩, .inr (.inl rfl), zF, rfl, rfl⟩
 ·rename_i g2
  rw [if_neg (show ¬ 0 ≤ firstAt (fun d : TDef => d.name == w.getD 1 []) i.services from g2), if_pos (by omega)]
  exact ⟨_, _, _, rfl, ⟨c, rfl, rfl⟩, .inr (.inl rfl), zF, rfl, rfl⟩
 ·rename_i g2
  rw [if_neg (show ¬ 0 ≤ firstAt (fun d : TDef => d.name == w.getD 1 []) i.services from g2), if_neg (by omega)]
  (refine po_step rfl rfl (op_append (b := 40) hT rfl rfl rfl rfl rfl rfl (.inl (Nat.zero_lt_succ _)) rfl rfl (by simp; omega) (fun cap' _ hcap => ⟨zLok, ?_⟩)); refine zDn ?_)
  refine zD ?_
  (refine pw_mv 2 9 hD rfl rfl rfl rfl rfl ?_; refine pw_norm rfl ?_)
  (repeat' (first | refine zS ?_ | refine zq5 ?_ | refine zq6 ?_ | (refine zT ?_ ?_ <;> intro h <;> first | exact zX | refine zNq ?_)))
  refine ⟨_, _, _, rfl, ⟨(c.1 , cap' , c.2.2), rfl, rfl⟩, .inr (.inl rfl), ?_, rfl, rfl⟩
  simp only [List.map_append, List.length_append]
  exact zF
end
section
variable {Gl : Glob}
attribute [local irreducible] PW PWL OpP PCalls PWO PWT bothT
def sRanges : Str := [114, 97, 110, 103, 101, 115]
def sVol : Str := [118, 111, 108, 97, 116, 105, 108, 101]
def sClass : Str := [99, 108, 97, 115, 115]
def optN (w : List Str) (n : Nat) (word : Str) : Nat := match w[n]? == some word with | true => n + 1 | false => n
def n1 (w : List Str) : Nat := optN w 4 sRanges
def n2 (w : List Str) : Nat := optN w (n1 w) sVol
def n3 (w : List Str) : Nat := optN w (n2 w) sClass
structure TLim (t : Topo) : Prop where
 devs : t.devs.length ≤ 12
 links : t.links.length ≤ 24
 edges : t.edges.length ≤ 12
 pools : t.pools.length ≤ 8
theorem TLim.ok {t : Topo} (h : TLim t) : TOk t := ⟨by have := h.devs; unfold Small; omega, by have := h.links; unfold Small; omega, by have := h.edges; unfold Small; omega, by have := h.pools; unfold Small; omega⟩
structure LOk (l : List TLine) : Prop where
 some : ∀ x ∈ l, 0 < x.words.length
 ok : ∀ x ∈ l, WOk x.words
 few : l.length < 2 ^ 30
end
section
theorem sub_le (s : Str) (a b : Nat) : (sub s a b).length ≤ s.length := by
 unfold sub; simp; omega
theorem endW_each {s : Str} {out : List Str} {st : Option Nat} {n : Nat} (h : ∀ x ∈ out, x.length ≤ s.length) : ∀ x ∈ endW s out st n, x.length ≤ s.length := by
 intro x hx
 unfold endW at hx
 split at hx
 ·rcases List.mem_append.1 hx with hx | hx
  ·exact h x hx
  ·rw [List.mem_singleton] at hx; subst hx; exact sub_le _ _ _
 ·exact h x hx
theorem wrun_each (s : Str) : ∀ (n i : Nat) (out : List Str) (st : Option Nat), (∀ x ∈ out, x.length ≤ s.length) → ∀ x ∈ wrun s n i out st, x.length ≤ s.length
 | 0, i, out, st, h => endW_each h
 | n + 1, i, out, st, h => by
  rw [wrun]
  split
  ·exact endW_each h
  ·split
   ·exact endW_each h
   ·split
    ·exact wrun_each s n _ _ _ (endW_each h)
    ·split
     ·refine wrun_each s n _ _ _ fun x hx => ?_
      rcases List.mem_append.1 hx with hx | hx
      ·exact endW_each h x hx
      ·rw [List.mem_singleton] at hx; subst hx; exact sub_le _ _ _
     ·exact wrun_each s n _ _ _ h
theorem words_each (s : Str) : ∀ x ∈ words s, x.length ≤ s.length := wrun_each s _ _ _ _ (by simp)
theorem lrun_ok (N : Nat) (hN : N ≤ 16384) : ∀ (ls : List Str) (i : Nat) (out : List TLine), (∀ p ∈ ls, p.length ≤ N) → (∀ x ∈ out, 0 < x.words.length ∧ WOk x.words) →
  (∀ x ∈ (lrun ls i out).1, 0 < x.words.length ∧ WOk x.words) ∧ (lrun ls i out).1.length ≤ out.length + ls.length
 | [], i, out, _, ho => ⟨ho, by simp [lrun]⟩
 | l :: ls, i, out, hp, ho => by
  rw [lrun]
  have hl := hp l (List.mem_cons_self ..)
  have hp' : ∀ p ∈ ls, p.length ≤ N := fun p h => hp p (List.mem_cons_of_mem _ h)
  split
  ·exact ⟨by simp, by simp⟩
  ·split
   ·exact ⟨by simp, by simp⟩
   ·rename_i h64
    split
    ·rename_i hpos
     have h1 := lrun_ok N hN ls (i + 1) (out ++ [⟨(i : Int) + 1, words l⟩]) hp' (fun x hx => by
      rcases List.mem_append.1 hx with hx | hx
      ·exact ho x hx
      ·rw [List.mem_singleton] at hx; subst hx
       refine ⟨by simp at hpos; show 0 < (words l).length; omega, ⟨by simp at h64; unfold Small; show (words l).length < _; omega, fun w hw => ?_⟩⟩
       have := words_each l w hw
       omega)
     refine ⟨h1.1, ?_⟩
     have := h1.2
     simp at this ⊢
     omega
    ·have h1 := lrun_ok N hN ls (i + 1) out hp' ho
     refine ⟨h1.1, ?_⟩
     have := h1.2
     simp at this ⊢
     omega
theorem lines_ok (s : Str) : LOk (lines s).1 := by
 unfold lines
 split
 ·exact ⟨by simp, by simp, by simp⟩
 ·rename_i h
  simp only [decide_eq_true_eq] at h
  have h1 := lrun_ok s.length (by omega) (splitAt 10 s) 0 [] (fun p hp => splitAt_size hp) (by simp)
  refine ⟨fun x hx => (h1.1 x hx).1, fun x hx => (h1.1 x hx).2, ?_⟩
  have h2 := h1.2
  rw [splitAt_len] at h2
  have := List.count_le_length (a := (10 : UInt8)) (l := s)
  simp at h2
  omega

end
end Go.Proofs.YtkaobkjcjodffaaGreatDoor