/-
 Contracts of functions, walked over pure values.
-/
import Derived.Test.YtkaobkjcjodffaaGreatDoorBB6
import Derived.Test.YtkaobkjcjodffaaGreatDoorAPwAuto
import Derived.Test.YtkaobkjcjodffaaGreatDoorBK43F
set_option maxHeartbeats 20000000
set_option maxRecDepth 100000
namespace Go.Proofs.YtkaobkjcjodffaaGreatDoor
open Go Go.Pw
section
variable {Gl : Glob}
attribute [local irreducible] PW PWL OpP PCalls PWO PWT bothT
def lines30 : List Str := [[103, 114, 111, 117, 112, 32, 103, 57, 32, 61, 32, 122, 111, 110, 101, 32, 108, 97, 110, 32, 44, 32, 115, 117, 98, 110, 101, 116, 32, 49, 48, 46, 48, 46, 48, 46, 48, 47, 56], [103, 114, 111, 117, 112, 32, 103, 57, 32, 61, 32, 122, 111, 110, 101, 32, 108, 97, 110, 32, 44], [103, 114, 111, 117, 112, 32, 103, 49, 32, 61, 32, 122, 111, 110, 101, 32, 97, 110, 121], [103, 114, 111, 117, 112, 32, 103, 49, 32, 61, 32, 122, 111, 110, 101, 32, 120], [103, 114, 111, 117, 112, 32, 103, 57, 32, 61], [115, 101, 114, 118, 105, 99, 101, 32, 115, 57, 32, 61, 32, 105, 99, 109, 112, 32, 44, 32, 112, 114, 111, 116, 111, 32, 52, 55], [115, 101, 114, 118, 105, 99, 101, 32, 115, 57, 32, 61, 32, 112, 114, 111, 116, 111, 32, 49, 55], [115, 101, 114, 118, 105, 99, 101, 32, 115, 57, 32, 61, 32, 112, 114, 111, 116, 111, 32, 50, 53, 54], [115, 101, 114, 118, 105, 99, 101, 32, 115, 57, 32, 61, 32, 116, 99, 112, 32, 56, 48, 45], [115, 101, 114, 118, 105, 99, 101, 32, 115, 57, 32, 61, 32, 116, 99, 112, 32, 49, 45, 54, 53, 53, 51, 54], [115, 101, 114, 118, 105, 99, 101, 32, 119, 101, 98, 32, 61, 32, 117, 100, 112, 32, 53, 51], [119, 105, 110, 100, 111, 119, 32, 119, 57, 32, 61, 32, 109, 111, 110, 32, 48, 56, 58, 48, 48, 45, 48, 57, 58, 48, 48], [119, 105, 110, 100, 111, 119, 32, 119, 57, 32, 61, 32, 110, 101, 118, 101, 114], [119, 105, 110, 100, 111, 119, 32, 119, 111, 114, 107, 32, 61, 32, 110, 101, 118, 101, 114], [119, 105, 110, 100, 111, 119, 32, 119, 57, 32, 61], [119, 105, 110, 100, 111, 119, 32, 119, 57, 32, 61, 32, 109, 111, 110], [97, 108, 108, 111, 119, 32, 97, 110, 121, 32, 45, 62, 32, 97, 110, 121, 32, 97, 110, 121], [100, 101, 110, 121, 32, 97, 32, 45, 62, 32, 98, 32, 99, 32, 118, 105, 97, 32, 105, 112, 115], [100, 101, 110, 121, 32, 97, 32, 45, 62, 32, 98, 32, 99, 32, 100, 117, 114, 105, 110, 103, 32, 119, 32, 112, 114, 105, 111, 114, 105, 116, 121, 32, 49, 48, 48, 48], [97, 108, 108, 111, 119, 32, 97, 32, 45, 62, 32, 98, 32, 99, 32, 112, 114, 105, 111, 114, 105, 116, 121, 32, 49, 48, 48, 49], [97, 108, 108, 111, 119, 32, 97, 32, 45, 62, 32, 98, 32, 99, 32, 112, 114, 105, 111, 114, 105, 116, 121, 32, 49, 32, 118, 105, 97, 32, 105, 112, 115], [97, 108, 108, 111, 119, 32, 97, 32, 45, 62, 32, 98, 32, 97, 110, 121, 32, 101, 120, 99, 101, 112, 116, 32, 120, 32, 45, 62, 32, 121, 32, 101, 120, 99, 101, 112, 116, 32, 120, 32, 45, 62, 32, 121], [97, 108, 108, 111, 119, 32, 97, 110, 121, 32, 45, 62, 32, 97, 110, 121], [112, 117, 98, 108, 105, 115, 104, 32, 49, 46, 50, 46, 51, 46, 52, 32, 116, 99, 112, 32, 56, 48, 32, 97, 116, 32, 101, 49, 32, 116, 111, 32, 49, 48, 46, 48, 46, 48, 46, 49, 32, 56, 48, 56, 48], [112, 117, 98, 108, 105, 115, 104, 32, 49, 46, 50, 46, 51, 46, 52, 32, 105, 99, 109, 112, 32, 56, 48, 32, 97, 116, 32, 101, 49, 32, 116, 111, 32, 49, 48, 46, 48, 46, 48, 46, 49, 32, 56, 48, 56, 48], [112, 117, 98, 108, 105, 115, 104, 32, 49, 46, 50, 46, 51, 46, 52, 32, 117, 100, 112, 32, 54, 53, 53, 51, 54, 32, 97, 116, 32, 101, 49, 32, 116, 111, 32, 49, 48, 46, 48, 46, 48, 46, 49, 32, 49], [104, 105, 100, 101, 32, 103, 49, 32, 97, 116, 32, 101, 49, 32, 98, 101, 104, 105, 110, 100, 32, 49, 46, 50, 46, 51, 46, 52, 32, 112, 111, 114, 116, 115, 32, 49, 48, 50, 52, 45, 50, 48, 48, 48], [104, 105, 100, 101, 32, 103, 49, 32, 97, 116, 32, 101, 49, 32, 98, 101, 104, 105, 110, 100, 32, 49, 46, 50, 46, 51, 46, 52, 32, 112, 111, 114, 116, 115, 32, 49, 48, 50, 51], [104, 105, 100, 101, 32, 97, 110, 121, 32, 97, 116, 32, 101, 49, 32, 98, 101, 104, 105, 110, 100, 32, 49, 46, 50, 46, 51, 46, 52, 32, 112, 111, 114, 116, 115, 32, 53, 48, 48, 48], [112, 101, 114, 109, 105, 116, 32, 97]]
theorem lines30_len : ∀ s ∈ lines30, s.length ≤ 60 := by decide
theorem c_gLine (l : List Int) (hl : Tp l) (i : Nat) (hi : i ≤ l.length) : Gen Gl 16 [] l i fun r => ∃ s : Str, s.length ≤ 61 ∧ r = .str s := by
 refine PCalls.of hT Tryz.func16 rfl 1 (Nat.le_refl _) fun B hD => ?_
 refine pw_norm rfl ?_
 (try refine zS ?_)
 (refine pl_op rfl (zCl [0] e17 (c13n l hl i hi 30 (by decide) (by decide)) (fun r s hq => ?_)); obtain ⟨i1, ⟨m, hm, rfl⟩, hi1, rfl⟩ := hq; refine ⟨rfl, rfl, ?_⟩; (refine zNp ?_))
 have hs : (lines30.getD m []).length ≤ 60 := lines30_len _ (getD_mem hm)
 (refine pl_op rfl (op_of (v_index (p := .str (lines30.getD m [])) hT rfl rfl rfl rfl (by omega) (lit_at .str lines30 m [] hm) rfl) ?_); (refine zNp ?_))
 generalize lines30.getD m [] = s at hs
 (try refine zS ?_)
 exact ⟨_, _, _, rfl, ⟨i1, ⟨s ++ [10], by simp; omega, rfl⟩, hi1, rfl⟩, .inr (.inl rfl), ⟨.inr (.inl rfl), trivial⟩, rfl, rfl⟩
attribute [local irreducible] vname rItem
def eAcc (T : List (List Str)) (sv : Bool) (k : Nat) : Int := if ¬ ((T.take k).all fun x => (rdItem x sv).2.1) = true then 4 else if ¬ ((T.take k).all fun x => (rdItem x sv).2.2) = true then 2 else 0
theorem rItem_err (x : List Str) (sv : Bool) : (rItem x sv).2 = if ¬ (rdItem x sv).2.1 = true then 4 else if ¬ (rdItem x sv).2.2 = true then 2 else 0 := by
 unfold rItem
 split
 ·rfl
 ·split <;> rfl
theorem rItem_ok {x : List Str} {sv : Bool} (h1 : (rdItem x sv).2.1 = true) (h2 : (rdItem x sv).2.2 = true) : (rItem x sv).1 = (rdItem x sv).1 := by
 unfold rItem
 rw [if_neg (fun h => h h1), if_neg (fun h => h h2)]
theorem eAcc_step {T : List (List Str)} {sv : Bool} {k : Nat} (h : k < T.length) : worseI (eAcc T sv k) (rItem (T.getD k default) sv).2 = eAcc T sv (k + 1) := by
 rw [rItem_err]
 unfold eAcc worseI
 rw [take_all h, take_all h]
 generalize ((T.take k).all fun x => (rdItem x sv).2.1) = a
 generalize ((T.take k).all fun x => (rdItem x sv).2.2) = b
 generalize (rdItem (T.getD k default) sv).2.1 = c
 generalize (rdItem (T.getD k default) sv).2.2 = d
 cases a <;> cases b <;> cases c <;> cases d <;> decide
theorem c_rDefG (l : List TDef) (hl : l.length ≤ 32) (c : Nat) (w : List Str) (hw : WOk w) (hl2 : w.length ≤ 1000) : PCalls Tryz.prog Gl 131 [.msl 2 0 0 (l.map eDef).length c, .sl (w.map .str), .bool true] [.arr 2 (l.map eDef) c] fun r s => OutA eDef 2 (pDef l w false).1 (pDef l w false).2 r s := by
 refine PCalls.of hT Tryz.func131 rfl 1 (Nat.le_refl _) fun B hD => ?_
 refine pw_norm rfl ?_
 have hdl : (w.drop 3).length ≤ 1000 := by rw [List.length_drop]; omega
 have hlg : (l.map eDef).length = l.length := List.length_map ..
 have fin : ∀ (n : Int), pDef l w false = (n, l) → ¬ n = 0 → OutA eDef 2 (pDef l w false).1 (pDef l w false).2 (.tup [.nilsl, .int .i64 n]) [.dead] := fun n h1 h2 => by rw [h1]; exact .inr ⟨h2, rfl, rfl⟩
 (repeat' (first | refine zS ?_ | refine zq5 ?_ | refine zq6 ?_ | (refine zT ?_ ?_ <;> intro h <;> first | exact zX | refine zNq ?_)))
 ·exact ⟨_, .tup [.nilsl, .int .i64 4], [.dead], rfl, fin 4 (by unfold pDef; rw [if_pos h]) (by decide), .inr (.inl rfl), ⟨.inl rfl, trivial⟩, rfl, rfl⟩
 ·rename_i g0
  exact ⟨_, .tup [.nilsl, .int .i64 4], [.dead], rfl, fin 4 (by unfold pDef; rw [if_neg g0, if_pos h]) (by decide), .inr (.inl rfl), ⟨.inl rfl, trivial⟩, rfl, rfl⟩
 rename_i g0
 have hT1 := (items_ok hw 3).1
 have hT2 := (items_ok hw 3).2
 have hT3 := items_len (w.drop 3)
 have hpd : pDef l w false = if ¬ (itemsT (w.drop 3)).1.all (fun x => (rdItem x false).2.1) = true then (4, l) else
   if ¬ (itemsT (w.drop 3)).1.all (fun x => (rdItem x false).2.2) = true then (2, l) else if 16 < (itemsT (w.drop 3)).1.length then (3, l) else
   if 0 ≤ firstAt (fun d => d.name == w.getD 1 []) l then (6, l) else if 32 ≤ l.length then (3, l) else (0, l ++ [⟨w.getD 1 [], (itemsT (w.drop 3)).1.map fun x => (rdItem x false).1⟩]) := by
  unfold pDef
  rw [if_neg g0, if_neg h]
 generalize (itemsT (w.drop 3)).1 = T at hT1 hT2 hT3 hpd ⊢
 refine pw_ghost 7 ?_
 refine zNq ?_
 refine pw_for hD (fun a : Nat × Nat => [(11, .int .i64 (eAcc T false a.1)), (12, .int .i64 a.1)]) (fun a => [.arr 2 (l.map eDef) c, .box [.str (w.getD 1 []), .msl 7 2 0 (((T.take a.1).map fun x => (rItem x false).1).map eItem).length a.2], .arr 7 (((T.take a.1).map fun x => (rItem x false).1).map eItem) a.2])
  (fun a => a.1 ≤ T.length) (fun a => T.length - a.1) (0, 0) (Nat.zero_le _) 3 rfl (fun _ => rfl)
  ?_ (fun _ => rfl) (fun _ => rfl) zLe ?_
 ·exact ⟨.inl rfl, .inr (.inr ⟨_, _, rfl, rfl, zLe⟩), .inl rfl, trivial⟩
 rintro ⟨k, cap⟩ hk
 dsimp only at hk ⊢
 have hrow : ∀ n, ((T.getD k default).getD n []).length < 4294967281 := fun n => by
  rw [@List.getD_eq_getElem?_getD _ T]
  cases h : T[k]? with
  | none => show (([] : List Str).getD n []).length < _; simp
  | some x => exact hT1 x (List.mem_of_getElem? h) n
 have hrow2 : (T.getD k default).length ≤ w.length := by
  rw [@List.getD_eq_getElem?_getD _ T]
  cases h : T[k]? with
  | none => exact Nat.zero_le _
  | some x => exact hT2 x (List.mem_of_getElem? h)
 have htl : (T.take k).length ≤ k := List.length_take_le ..
 (repeat' (first | refine zS ?_ | refine zq5 ?_ | refine zq6 ?_))
 refine zT ?_ ?_ <;> intro h1 <;> refine zNq ?_
 ·have hkT : k < T.length := by omega
  (repeat' (first | refine zS ?_ | refine zq5 ?_ | refine zq6 ?_ | (refine zT ?_ ?_ <;> intro h <;> first | exact zX | refine zNq ?_)))
  (refine pl_append (b := 56) hT hD rfl rfl rfl rfl rfl rfl rfl rfl (.inl (Nat.zero_lt_succ _)) rfl rfl (by simp; omega) (fun cap' _ hcap => ?_); (refine zNp ?_))
  (repeat' (first | refine zS ?_ | refine zq5 ?_ | refine zq6 ?_ | (refine zT ?_ ?_ <;> intro h <;> first | exact zX | refine zNq ?_)))
  refine ⟨(k + 1, cap'), hkT, by dsimp only; omega, ?_, ?_⟩
  ·rw [eAcc_step hkT]
   (exact zLe)
  ·simp only [take_map hkT, List.length_append, List.map_append, List.map_cons, List.map_nil]
   (exact zLes)
 obtain rfl : k = T.length := by omega
 simp only [List.take_length]
 (repeat' (first | refine zS ?_ | refine zq5 ?_ | refine zq6 ?_))
 refine pw_frzB 2 1 (cs1 := [.str (w.getD 1 [])]) (cs2 := []) rfl rfl rfl (by decide) ?_
 refine pw_normV rfl ?_
 refine zNq ?_
 have hE : eAcc T false T.length = if ¬ (T.all fun x => (rdItem x false).2.1) = true then 4 else if ¬ (T.all fun x => (rdItem x false).2.2) = true then 2 else 0 := by unfold eAcc; rw [List.take_length]
 have hm : eAcc T false T.length = 0 → (T.all fun x => (rdItem x false).2.1) = true ∧ (T.all fun x => (rdItem x false).2.2) = true ∧ (T.map fun x => (rItem x false).1) = T.map fun x => (rdItem x false).1 := fun h0 => by
  rw [hE] at h0
  split at h0
  ·cases h0
  ·rename_i a1
   split at h0
   ·cases h0
   ·rename_i a2
    have a1 := Decidable.not_not.1 a1
    have a2 := Decidable.not_not.1 a2
    exact ⟨a1, a2, List.map_congr_left fun x hx => rItem_ok (List.all_eq_true.1 a1 x hx) (List.all_eq_true.1 a2 x hx)⟩
 (repeat' (first | refine zS ?_ | refine zq5 ?_ | refine zq6 ?_ | (refine zT ?_ ?_ <;> intro h <;> first | exact zX | refine zNq ?_)))
 ·exact ⟨_, .tup [.nilsl, .int .i64 (eAcc T false T.length)], [.dead], rfl, fin _ (by
   rw [hpd]
   rw [hE] at h ⊢
   split
   ·rfl
   ·rename_i a1
    rw [if_neg a1] at h
    split
    ·rfl
    ·rename_i a2; rw [if_neg a2] at h; exact (h rfl).elim) h, .inr (.inl rfl), ⟨.inl rfl, trivial⟩, rfl, rfl⟩
 all_goals obtain ⟨m1, m2, m3⟩ := hm (Decidable.not_not.1 (by assumption))
 all_goals rw [if_neg (fun q => q m1), if_neg (fun q => q m2)] at hpd
 ·exact ⟨_, .tup [.nilsl, .int .i64 3], [.dead], rfl, fin 3 (by rw [hpd, if_pos (by omega)]) (by decide), .inr (.inl rfl), ⟨.inl rfl, trivial⟩, rfl, rfl⟩
 ·exact ⟨_, .tup [.nilsl, .int .i64 6], [.dead], rfl, fin 6 (by rw [hpd, if_neg (by omega), if_pos h]) (by decide), .inr (.inl rfl), ⟨.inl rfl, trivial⟩, rfl, rfl⟩
 ·rename_i g1 g2
  exact ⟨_, .tup [.nilsl, .int .i64 3], [.dead], rfl, fin 3 (by rw [hpd, if_neg (by omega), if_neg g2, if_pos (by omega)]) (by decide), .inr (.inl rfl), ⟨.inl rfl, trivial⟩, rfl, rfl⟩
 ·rename_i g1 g2
  rw [if_neg (by omega), if_neg g2, if_neg (by omega), ← m3] at hpd
  rw [hpd]
  (refine pl_append (b := 40) hT hD rfl rfl rfl rfl rfl rfl rfl rfl (.inl (Nat.zero_lt_succ _)) rfl rfl (by simp; omega) (fun cap' _ hcap => ?_); (refine zNp ?_))
  (repeat' (first | refine zS ?_ | refine zq5 ?_ | refine zq6 ?_ | (refine zT ?_ ?_ <;> intro h <;> first | exact zX | refine zNq ?_)))
  refine ⟨_, _, _, rfl, .inl ⟨rfl, cap', rfl, rfl⟩, .inr (.inl ?_), ⟨.inr (.inl ?_), trivial⟩, rfl, rfl⟩
  all_goals simp only [List.map_append, List.length_append]; rfl
theorem c_rDefS (l : List TDef) (hl : l.length ≤ 32) (c : Nat) (w : List Str) (hw : WOk w) (hl2 : w.length ≤ 1000) : PCalls Tryz.prog Gl 131 [.msl 2 0 0 (l.map eDef).length c, .sl (w.map .str), .bool false] [.arr 2 (l.map eDef) c] fun r s => OutA eDef 2 (pDef l w true).1 (pDef l w true).2 r s := by
 refine PCalls.of hT Tryz.func131 rfl 1 (Nat.le_refl _) fun B hD => ?_
 refine pw_norm rfl ?_
 have hdl : (w.drop 3).length ≤ 1000 := by rw [List.length_drop]; omega
 have hlg : (l.map eDef).length = l.length := List.length_map ..
 have fin : ∀ (n : Int), pDef l w true = (n, l) → ¬ n = 0 → OutA eDef 2 (pDef l w true).1 (pDef l w true).2 (.tup [.nilsl, .int .i64 n]) [.dead] := fun n h1 h2 => by rw [h1]; exact .inr ⟨h2, rfl, rfl⟩
 (repeat' (first | refine zS ?_ | refine zq5 ?_ | refine zq6 ?_ | (refine zT ?_ ?_ <;> intro h <;> first | exact zX | refine zNq ?_)))
 ·exact ⟨_, .tup [.nilsl, .int .i64 4], [.dead], rfl, fin 4 (by unfold pDef; rw [if_pos h]) (by decide), .inr (.inl rfl), ⟨.inl rfl, trivial⟩, rfl, rfl⟩
 ·rename_i g0
  exact ⟨_, .tup [.nilsl, .int .i64 4], [.dead], rfl, fin 4 (by unfold pDef; rw [if_neg g0, if_pos h]) (by decide), .inr (.inl rfl), ⟨.inl rfl, trivial⟩, rfl, rfl⟩
 rename_i g0
 have hT1 := (items_ok hw 3).1
 have hT2 := (items_ok hw 3).2
 have hT3 := items_len (w.drop 3)
 have hpd : pDef l w true = if ¬ (itemsT (w.drop 3)).1.all (fun x => (rdItem x true).2.1) = true then (4, l) else
   if ¬ (itemsT (w.drop 3)).1.all (fun x => (rdItem x true).2.2) = true then (2, l) else if 16 < (itemsT (w.drop 3)).1.length then (3, l) else
   if 0 ≤ firstAt (fun d => d.name == w.getD 1 []) l then (6, l) else if 32 ≤ l.length then (3, l) else (0, l ++ [⟨w.getD 1 [], (itemsT (w.drop 3)).1.map fun x => (rdItem x true).1⟩]) := by
  unfold pDef
  rw [if_neg g0, if_neg h]
 generalize (itemsT (w.drop 3)).1 = T at hT1 hT2 hT3 hpd ⊢
 refine pw_ghost 7 ?_
 refine zNq ?_
 refine pw_for hD (fun a : Nat × Nat => [(11, .int .i64 (eAcc T true a.1)), (12, .int .i64 a.1)]) (fun a => [.arr 2 (l.map eDef) c, .box [.str (w.getD 1 []), .msl 7 2 0 (((T.take a.1).map fun x => (rItem x true).1).map eItem).length a.2], .arr 7 (((T.take a.1).map fun x => (rItem x true).1).map eItem) a.2])
  (fun a => a.1 ≤ T.length) (fun a => T.length - a.1) (0, 0) (Nat.zero_le _) 3 rfl (fun _ => rfl)
  ?_ (fun _ => rfl) (fun _ => rfl) zLe ?_
 ·exact ⟨.inl rfl, .inr (.inr ⟨_, _, rfl, rfl, zLe⟩), .inl rfl, trivial⟩
 rintro ⟨k, cap⟩ hk
 dsimp only at hk ⊢
 have hrow : ∀ n, ((T.getD k default).getD n []).length < 4294967281 := fun n => by
  rw [@List.getD_eq_getElem?_getD _ T]
  cases h : T[k]? with
  | none => show (([] : List Str).getD n []).length < _; simp
  | some x => exact hT1 x (List.mem_of_getElem? h) n
 have hrow2 : (T.getD k default).length ≤ w.length := by
  rw [@List.getD_eq_getElem?_getD _ T]
  cases h : T[k]? with
  | none => exact Nat.zero_le _
  | some x => exact hT2 x (List.mem_of_getElem? h)
 have htl : (T.take k).length ≤ k := List.length_take_le ..
 (repeat' (first | refine zS ?_ | refine zq5 ?_ | refine zq6 ?_))
 refine zT ?_ ?_ <;> intro h1 <;> refine zNq ?_
 ·have hkT : k < T.length := by omega
  (repeat' (first | refine zS ?_ | refine zq5 ?_ | refine zq6 ?_ | (refine zT ?_ ?_ <;> intro h <;> first | exact zX | refine zNq ?_)))
  (refine pl_append (b := 56) hT hD rfl rfl rfl rfl rfl rfl rfl rfl (.inl (Nat.zero_lt_succ _)) rfl rfl (by simp; omega) (fun cap' _ hcap => ?_); (refine zNp ?_))
  (repeat' (first | refine zS ?_ | refine zq5 ?_ | refine zq6 ?_ | (refine zT ?_ ?_ <;> intro h <;> first | exact zX | refine zNq ?_)))
  refine ⟨(k + 1, cap'), hkT, by dsimp only; omega, ?_, ?_⟩
  ·rw [eAcc_step hkT]
   (exact zLe)
  ·simp only [take_map hkT, List.length_append, List.map_append, List.map_cons, List.map_nil]
   (exact zLes)
 obtain rfl : k = T.length := by omega
 simp only [List.take_length]
 (repeat' (first | refine zS ?_ | refine zq5 ?_ | refine zq6 ?_))
 refine pw_frzB 2 1 (cs1 := [.str (w.getD 1 [])]) (cs2 := []) rfl rfl rfl (by decide) ?_
 refine pw_normV rfl ?_
 refine zNq ?_
 have hE : eAcc T true T.length = if ¬ (T.all fun x => (rdItem x true).2.1) = true then 4 else if ¬ (T.all fun x => (rdItem x true).2.2) = true then 2 else 0 := by unfold eAcc; rw [List.take_length]
 have hm : eAcc T true T.length = 0 → (T.all fun x => (rdItem x true).2.1) = true ∧ (T.all fun x => (rdItem x true).2.2) = true ∧ (T.map fun x => (rItem x true).1) = T.map fun x => (rdItem x true).1 := fun h0 => by
  rw [hE] at h0
  split at h0
  ·cases h0
  ·rename_i a1
   split at h0
   ·cases h0
   ·rename_i a2
    have a1 := Decidable.not_not.1 a1
    have a2 := Decidable.not_not.1 a2
    exact ⟨a1, a2, List.map_congr_left fun x hx => rItem_ok (List.all_eq_true.1 a1 x hx) (List.all_eq_true.1 a2 x hx)⟩
 (repeat' (first | refine zS ?_ | refine zq5 ?_ | refine zq6 ?_ | (refine zT ?_ ?_ <;> intro h <;> first | exact zX | refine zNq ?_)))
 ·exact ⟨_, .tup [.nilsl, .int .i64 (eAcc T true T.length)], [.dead], rfl, fin _ (by
   rw [hpd]
   rw [hE] at h ⊢
   split
   ·rfl
   ·rename_i a1
    rw [if_neg a1] at h
    split
    ·rfl
    ·rename_i a2; rw [if_neg a2] at h; exact (h rfl).elim) h, .inr (.inl rfl), ⟨.inl rfl, trivial⟩, rfl, rfl⟩
 all_goals obtain ⟨m1, m2, m3⟩ := hm (Decidable.not_not.1 (by assumption))
 all_goals rw [if_neg (fun q => q m1), if_neg (fun q => q m2)] at hpd
 ·exact ⟨_, .tup [.nilsl, .int .i64 3], [.dead], rfl, fin 3 (by rw [hpd, if_pos (by omega)]) (by decide), .inr (.inl rfl), ⟨.inl rfl, trivial⟩, rfl, rfl⟩
 ·exact ⟨_, .tup [.nilsl, .int .i64 6], [.dead], rfl, fin 6 (by rw [hpd, if_neg (by omega), if_pos h]) (by decide), .inr (.inl rfl), ⟨.inl rfl, trivial⟩, rfl, rfl⟩
 ·rename_i g1 g2
  exact ⟨_, .tup [.nilsl, .int .i64 3], [.dead], rfl, fin 3 (by rw [hpd, if_neg (by omega), if_neg g2, if_pos (by omega)]) (by decide), .inr (.inl rfl), ⟨.inl rfl, trivial⟩, rfl, rfl⟩
 ·rename_i g1 g2
  rw [if_neg (by omega), if_neg g2, if_neg (by omega), ← m3] at hpd
  rw [hpd]
  (refine pl_append (b := 40) hT hD rfl rfl rfl rfl rfl rfl rfl rfl (.inl (Nat.zero_lt_succ _)) rfl rfl (by simp; omega) (fun cap' _ hcap => ?_); (refine zNp ?_))
  (repeat' (first | refine zS ?_ | refine zq5 ?_ | refine zq6 ?_ | (refine zT ?_ ?_ <;> intro h <;> first | exact zX | refine zNq ?_)))
  refine ⟨_, _, _, rfl, .inl ⟨rfl, cap', rfl, rfl⟩, .inr (.inl ?_), ⟨.inr (.inl ?_), trivial⟩, rfl, rfl⟩
  all_goals simp only [List.map_append, List.length_append]; rfl
end
section
structure RRd where
 s : TStm
 g0 : Bool
 g1 : Bool
 g2 : Bool
 g3 : Bool
 g4 : Bool
 rest : List Str
def qHead (w : List Str) : RRd := ⟨⟨w.getD 0 [] == [97, 108, 108, 111, 119], (rdRef (w.getD 1 [])).1, (rdRef (w.getD 3 [])).1, (rdRef (w.getD 4 [])).1, false, [], [], [], [], 0⟩, (rdRef (w.getD 1 [])).2, (rdRef (w.getD 3 [])).2, (rdRef (w.getD 4 [])).2, true, true, w.drop 5⟩
def qExc (x : RRd) : RRd :=
 if ((x.rest.length : Int) ≥ 4 ∧ x.rest.getD 0 [] = [101, 120, 99, 101, 112, 116]) ∧ x.rest.getD 2 [] = [45, 62] then
  ⟨{ x.s with excepted := true, exSrc := (rdRef (x.rest.getD 1 [])).1, exDst := (rdRef (x.rest.getD 3 [])).1 }, x.g0, x.g1, x.g2, (rdRef (x.rest.getD 1 [])).2, (rdRef (x.rest.getD 3 [])).2, x.rest.drop 4⟩ else x
def qVia (x : RRd) : RRd :=
 if (((x.rest.length : Int) ≥ 2 ∧ x.rest.getD 0 [] = [118, 105, 97]) ∧ x.s.permit = true) ∧ vname (x.rest.getD 1 []) = true then ⟨{ x.s with cls := x.rest.getD 1 [] }, x.g0, x.g1, x.g2, x.g3, x.g4, x.rest.drop 2⟩ else x
def qDur (x : RRd) : RRd :=
 if ((x.rest.length : Int) ≥ 2 ∧ x.rest.getD 0 [] = [100, 117, 114, 105, 110, 103]) ∧ vname (x.rest.getD 1 []) = true then ⟨{ x.s with during := x.rest.getD 1 [] }, x.g0, x.g1, x.g2, x.g3, x.g4, x.rest.drop 2⟩ else x
def qPri (x : RRd) : RRd × Int :=
 if (x.rest.length : Int) ≥ 2 ∧ x.rest.getD 0 [] = [112, 114, 105, 111, 114, 105, 116, 121] then (⟨{ x.s with prio := (rNum (x.rest.getD 1 []) 1000).1 }, x.g0, x.g1, x.g2, x.g3, x.g4, x.rest.drop 2⟩, (rNum (x.rest.getD 1 []) 1000).2) else (x, 0)
def RRd.good (x : RRd) : Bool := (((x.g0 && x.g1) && x.g2) && x.g3) && x.g4
def qEnd (y : RRd × Int) : Int := if (y.1.rest.length : Int) > 0 ∨ ¬ y.1.good = true then 4 else y.2
def qStm (w : List Str) : Int × TStm :=
 if (w.length : Int) < 5 ∨ ¬ w.getD 2 [] = [45, 62] then (4, stm0) else
 if ¬ qEnd (qPri (qDur (qVia (qExc (qHead w))))) = 0 then (qEnd (qPri (qDur (qVia (qExc (qHead w))))), stm0) else (0, (qPri (qDur (qVia (qExc (qHead w))))).1.s)
def Sim (bad : List Str → Prop) (r : RRd) (x : TRd) : Prop := (r.s = x.s ∧ r.rest = x.rest ∧ r.good = x.ok) ∨ (x.ok = false ∧ 0 < r.rest.length ∧ bad r.rest)
theorem sim_head (w : List Str) : Sim (fun _ => False) (qHead w) (sHead w) := .inl ⟨rfl, rfl, by simp [qHead, sHead, RRd.good]⟩
theorem sim_exc {r : RRd} {x : TRd} (h : Sim (fun _ => False) r x) (h3 : r.g3 = true ∧ r.g4 = true) : Sim (fun _ => False) (qExc r) (sExc x) := by
 rcases h with ⟨h1, h2, hg⟩ | ⟨_, _, h⟩
 ·unfold qExc sExc
  rw [h2]
  split
  ·refine .inl ⟨by rw [h1], rfl, ?_⟩
   rw [← hg]
   simp [RRd.good, h3]
  ·exact .inl ⟨h1, h2, hg⟩
 ·exact h.elim
theorem sim_via {r : RRd} {x : TRd} (h : Sim (fun _ => False) r x) : Sim (fun l => l.getD 0 [] = [118, 105, 97]) (qVia r) (sVia x) := by
 rcases h with ⟨h1, h2, hg⟩ | ⟨_, _, h⟩
 ·unfold qVia sVia
  rw [h2, h1]
  by_cases q : (x.s.permit = true ∧ (x.rest.length : Int) ≥ 2) ∧ x.rest.getD 0 [] = [118, 105, 97]
  ·rw [if_pos q]
   by_cases v : vname (x.rest.getD 1 []) = true
   ·rw [if_pos ⟨⟨⟨q.1.2, q.2⟩, q.1.1⟩, v⟩]
    refine .inl ⟨rfl, rfl, ?_⟩
    show r.good = (x.ok && _)
    rw [v, Bool.and_true]; exact hg
   ·rw [if_neg (fun hh => v hh.2)]
    refine .inr ⟨?_, by rw [h2]; omega, by rw [h2]; exact q.2⟩
    show (x.ok && _) = false
    rw [show vname (x.rest.getD 1 []) = false by simpa using v, Bool.and_false]
  ·rw [if_neg q, if_neg (fun hh => q ⟨⟨hh.1.2, hh.1.1.1⟩, hh.1.1.2⟩)]
   exact .inl ⟨h1, h2, hg⟩
 ·exact h.elim
theorem sDur_bad {x : TRd} (h : x.ok = false) : (sDur x).ok = false := by
 unfold sDur; split
 ·show (x.ok && _) = false
  rw [h]; rfl
 ·exact h
theorem sim_dur {r : RRd} {x : TRd} (h : Sim (fun l => l.getD 0 [] = [118, 105, 97]) r x) : Sim (fun l => l.getD 0 [] = [118, 105, 97] ∨ l.getD 0 [] = [100, 117, 114, 105, 110, 103]) (qDur r) (sDur x) := by
 rcases h with ⟨h1, h2, hg⟩ | ⟨k1, k2, k3⟩
 ·unfold qDur sDur
  rw [h2, h1]
  by_cases q : (x.rest.length : Int) ≥ 2 ∧ x.rest.getD 0 [] = [100, 117, 114, 105, 110, 103]
  ·rw [if_pos q]
   by_cases v : vname (x.rest.getD 1 []) = true
   ·rw [if_pos ⟨q, v⟩]
    refine .inl ⟨rfl, rfl, ?_⟩
    show r.good = (x.ok && _)
    rw [v, Bool.and_true]; exact hg
   ·rw [if_neg (fun hh => v hh.2)]
    refine .inr ⟨?_, by rw [h2]; omega, by rw [h2]; exact .inr q.2⟩
    show (x.ok && _) = false
    rw [show vname (x.rest.getD 1 []) = false by simpa using v, Bool.and_false]
  ·rw [if_neg q, if_neg (fun hh => q hh.1)]
   exact .inl ⟨h1, h2, hg⟩
 ·have e : qDur r = r := if_neg (by rw [k3]; rintro ⟨⟨_, q⟩, _⟩; cases q)
  rw [e]
  exact .inr ⟨sDur_bad k1, k2, .inl k3⟩
theorem sPri_bad {x : TRd} (h : x.ok = false) : (sPri x).1.ok = false := by
 unfold sPri; split
 ·show (x.ok && _) = false
  rw [h]; rfl
 ·exact h
theorem qStm_eq (w : List Str) : qStm w = rdStm w := by
 unfold qStm rdStm
 split
 ·rfl
 have h3 : (qHead w).g3 = true ∧ (qHead w).g4 = true := ⟨rfl, rfl⟩
 have hs := sim_dur (sim_via (sim_exc (sim_head w) h3))
 generalize qDur (qVia (qExc (qHead w))) = r at hs
 generalize sDur (sVia (sExc (sHead w))) = x at hs
 rcases hs with ⟨h1, h2, hg⟩ | ⟨k1, k2, k3⟩
 ·unfold qEnd
  by_cases q : (x.rest.length : Int) ≥ 2 ∧ x.rest.getD 0 [] = [112, 114, 105, 111, 114, 105, 116, 121]
  ·have e1 : qPri r = (⟨{ x.s with prio := (rNum (x.rest.getD 1 []) 1000).1 }, r.g0, r.g1, r.g2, r.g3, r.g4, x.rest.drop 2⟩, (rNum (x.rest.getD 1 []) 1000).2) := by unfold qPri; rw [h2, if_pos q, h1]
   have e2 : sPri x = (⟨{ x.s with prio := (number (x.rest.getD 1 []) 0 1000).1 }, x.ok && digitsB (x.rest.getD 1 []), x.rest.drop 2⟩, (number (x.rest.getD 1 []) 0 1000).2) := if_pos q
   rw [e1, e2]
   have hg' : ∀ s l, RRd.good ⟨s, r.g0, r.g1, r.g2, r.g3, r.g4, l⟩ = x.ok := fun _ _ => hg
   simp only [hg']
   generalize x.rest.getD 1 [] = p
   generalize x.rest.drop 2 = l
   unfold rNum
   by_cases a1 : l.length = 0
   ·by_cases a2 : x.ok = true
    ·by_cases a3 : digitsB p = true
     ·by_cases a4 : (number p 0 1000).2 = true
      ·simp [a1, a2, a3, a4]
      ·simp [a1, a2, a3, a4]
     ·simp [a1, a2, a3]
    ·simp [a1, a2]
   ·simp [show 0 < l.length by omega]
  ·have e1 : qPri r = (r, 0) := by unfold qPri; rw [h2, if_neg q]
   have e2 : sPri x = (x, true) := if_neg q
   rw [e1, e2]
   dsimp only
   rw [hg, h2, h1]
   by_cases a1 : x.rest.length = 0
   ·by_cases a2 : x.ok = true
    ·simp [a1, a2]
    ·simp [a1, a2]
   ·simp [show 0 < x.rest.length by omega]
 ·have e1 : qPri r = (r, 0) := if_neg (by rintro ⟨_, q⟩; rw [q] at k3; rcases k3 with k3 | k3 <;> cases k3)
  have e2 := sPri_bad k1
  rw [e1]
  have e0 : qEnd (r, 0) = 4 := if_pos (.inl (by show (r.rest.length : Int) > 0; omega))
  rw [e0, if_pos (show ¬ (4 : Int) = 0 by decide), if_pos (.inl (by rw [e2]; decide))]

end
end Go.Proofs.YtkaobkjcjodffaaGreatDoor