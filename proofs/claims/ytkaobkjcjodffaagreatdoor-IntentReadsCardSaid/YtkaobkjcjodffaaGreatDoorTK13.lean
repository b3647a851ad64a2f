/-
 What the lines of a text are like.
-/
import Derived.Test.YtkaobkjcjodffaaGreatDoorTK3
import Derived.Test.YtkaobkjcjodffaaGreatDoorTB8
import Derived.Test.YtkaobkjcjodffaaGreatDoorSPwApX
set_option maxHeartbeats 20000000
set_option maxRecDepth 100000
namespace Go.Proofs.YtkaobkjcjodffaaGreatDoor
open Go Go.Pw
section
variable {Gl : Glob}
attribute [local irreducible] PW PWL OpP PCalls PWO formB vname digitsB PWT bothT
abbrev ICaps := Nat × Nat × Nat × Nat × Nat × Nat
def ist (i : TInt) (c : ICaps) : List PObj := [.box [.msl 2 1 0 (i.groups.map eDef).length c.1, .msl 2 2 0 (i.services.map eDef).length c.2.1, .msl 2 3 0 (i.windows.map eWin).length c.2.2.1, .msl 10 4 0 (i.stms.map eStm).length c.2.2.2.1, .msl 6 5 0 (i.pubs.map ePub).length c.2.2.2.2.1, .msl 5 6 0 (i.hids.map eHid).length c.2.2.2.2.2],
 .arr 2 (i.groups.map eDef) c.1, .arr 2 (i.services.map eDef) c.2.1, .arr 2 (i.windows.map eWin) c.2.2.1, .arr 10 (i.stms.map eStm) c.2.2.2.1, .arr 6 (i.pubs.map ePub) c.2.2.2.2.1, .arr 5 (i.hids.map eHid) c.2.2.2.2.2]
theorem items_ok {w : List Str} (hw : WOk w) (n : Nat) : (∀ s ∈ (itemsT (w.drop n)).1, ∀ k, (s.getD k []).length < 4294967281) ∧ ∀ s ∈ (itemsT (w.drop n)).1, s.length ≤ w.length := by
 unfold itemsT
 split
 ·refine ⟨fun s hs k => ?_, fun s hs => segGo_width (w.drop n) [] [] w.length (by simp) (by simp) s hs⟩
  have := segGo_each (fun x => x.length < 4294967281) (w.drop n) [] [] (by simp) (by simp) (fun x hx => hw.each x (List.mem_of_mem_drop hx)) s hs
  rw [List.getD]
  cases h : s[k]? with
  | none => simp
  | some x => exact this x (List.mem_of_getElem? h)
 ·exact ⟨by simp, by simp⟩
theorem items_len (w : List Str) : (itemsT w).1.length ≤ w.length + 1 := by
 unfold itemsT
 split
 ·have := segGo_len w [] []
  simp only [List.length_nil] at this
  show (segGo w [] []).length ≤ _
  omega
 ·simp
theorem take_all {α : Type} {p : α → Bool} {l : List α} {k : Nat} [Inhabited α] (h : k < l.length) : (l.take (k + 1)).all p = ((l.take k).all p && p (l.getD k default)) := by
 rw [List.take_succ_eq_append_getElem h, List.all_append, List.getD, List.getElem?_eq_getElem h]; simp
theorem take_map {α β : Type} {f : α → β} {l : List α} {k : Nat} [Inhabited α] (h : k < l.length) : (l.take (k + 1)).map f = (l.take k).map f ++ [f (l.getD k default)] := by
 rw [List.take_succ_eq_append_getElem h, List.map_append, List.getD, List.getElem?_eq_getElem h]; rfl
theorem c_defineG (hG : GM Gl) (i : TInt) (hi : i.groups.length ≤ 32) (c : ICaps) (w : List Str) (sv : Bool) (hw : WOk w) (hl : w.length ≤ 1000) : PCalls Tryz.prog Gl 46 [.ptr 0 0, .sl (w.map .str), .bool sv] (ist i c) fun r s => ∃ c', r = .int .i64 (pDef i.groups w sv).1 ∧ s = ist { i with groups := (pDef i.groups w sv).2 } c' := by
 refine PCalls.of hT Tryz.func46 rfl 7 (Nat.le_refl _) fun B hD => ?_
 refine pw_norm rfl ?_
 have hdl : (w.drop 3).length ≤ 1000 := by rw [List.length_drop]; omega
 have hlg : (i.groups.map eDef).length = i.groups.length := List.length_map ..
 (repeat' (first | refine zS ?_ | refine zq5 ?_ | refine zq6 ?_ | (refine zT ?_ ?_ <;> intro h <;> first | exact zX | refine zNq ?_)))
 ·rw [show pDef i.groups w sv = (4, i.groups) from by unfold pDef; (repeat (first | refine (if_pos (by assumption)).trans ?_ | refine (if_neg (by assumption)).trans ?_)); rfl]
  exact ⟨_, _, _, rfl, ⟨c, rfl, rfl⟩, .inr (.inl rfl), zF, rfl, rfl⟩
 ·rw [show pDef i.groups w sv = (4, i.groups) from by unfold pDef; (repeat (first | refine (if_pos (by assumption)).trans ?_ | refine (if_neg (by assumption)).trans ?_)); rfl]
  exact ⟨_, _, _, rfl, ⟨c, rfl, rfl⟩, .inr (.inl rfl), zF, rfl, rfl⟩
 rename_i g0
 have hok := Decidable.not_not.1 h
 have hT1 := (items_ok hw 3).1
 have hT2 := (items_ok hw 3).2
 have hT3 := items_len (w.drop 3)
 have hpd : pDef i.groups w sv = if ¬ (itemsT (w.drop 3)).1.all (fun x => (rdItem x sv).2.1) = true then (4, i.groups) else
   if ¬ (itemsT (w.drop 3)).1.all (fun x => (rdItem x sv).2.2) = true then (2, i.groups) else if 16 < (itemsT (w.drop 3)).1.length then (3, i.groups) else
   if 0 ≤ firstAt (fun d => d.name == w.getD 1 []) i.groups then (6, i.groups) else if 32 ≤ i.groups.length then (3, i.groups) else (0, i.groups ++ [⟨w.getD 1 [], (itemsT (w.drop 3)).1.map fun x => (rdItem x sv).1⟩]) := by
  unfold pDef
  rw [if_neg g0, if_neg (by rw [hok]; simp)]
 rw [hpd]
 generalize (itemsT (w.drop 3)).1 = T at hT1 hT2 hT3 ⊢
 clear hpd
 have hml : (T.map fun x => (rdItem x sv).1).length = T.length := List.length_map ..
 refine pw_ghost 7 ?_
 refine zNq ?_
 refine pw_for hD (fun a : Nat × Nat => [(10, .bool ((T.take a.1).all fun x => (rdItem x sv).2.2)), (46, .int .i64 a.1)]) (fun a => ist i c ++ [.box [.str (w.getD 1 []), .msl 7 8 0 (((T.take a.1).map fun x => (rdItem x sv).1).map eItem).length a.2], .arr 7 (((T.take a.1).map fun x => (rdItem x sv).1).map eItem) a.2])
  (fun a => a.1 ≤ T.length ∧ (T.take a.1).all (fun x => (rdItem x sv).2.1) = true) (fun a => T.length - a.1) (0, 0) ⟨Nat.zero_le _, rfl⟩ 9 rfl (fun _ => rfl)
  ?_ (fun _ => rfl) (fun _ => rfl) zLe ?_
 ·show StLe (ist i c ++ [.box [.str (w.getD 1 []), .nilsl], .arr 7 [] 0]) _
  exact ⟨.inl rfl, .inl rfl, .inl rfl, .inl rfl, .inl rfl, .inl rfl, .inl rfl, .inr (.inr ⟨_, _, rfl, rfl, zLe⟩), .inl rfl, trivial⟩
 rintro ⟨k, cap⟩ ⟨hk, hall⟩
 dsimp only at hk hall ⊢
 unfold ist
 refine zNq ?_
 have hrow : ∀ n, ((T.getD k default).getD n []).length < 4294967281 := fun n => by
  rw [@List.getD_eq_getElem?_getD _ T]
  cases h : T[k]? with
  | none => show (([] : List Str).getD n []).length < _; simp
  | some x => exact hT1 x (List.mem_of_getElem? h) n
 have hrow2 : (T.getD k default).length ≤ w.length := by
  rw [@List.getD_eq_getElem?_getD _ T]
  cases h : T[k]? with
  | none => exact Nat.zero_le _
  | some x => exact hT2 x (List.mem_of_getElem? h)
 have htl : (T.take k).length ≤ k := List.length_take_le ..
 (repeat' (first | refine zS ?_ | refine zq5 ?_ | refine zq6 ?_ | (refine zT ?_ ?_ <;> intro h <;> first | exact zX | refine zNq ?_)))
 ·have hkT : k < T.length := by omega
  rw [if_pos (by rw [List.all_eq_true]; intro hh; exact h (hh _ (by rw [List.getD, List.getElem?_eq_getElem hkT]; exact List.getElem_mem hkT)))]
  exact ⟨_, _, _, rfl, ⟨c, rfl, rfl⟩, .inr (.inl rfl), zF, rfl, rfl⟩
 ·have hkT : k < T.length := by omega
  have hf := Decidable.not_not.1 h
  (refine pl_append (b := 56) hT hD rfl rfl rfl rfl rfl rfl rfl rfl (.inl (Nat.zero_lt_succ _)) rfl rfl (by simp; omega) (fun cap' _ hcap => ?_); (refine zNp ?_))
  (repeat' (first | refine zS ?_ | refine zq5 ?_ | refine zq6 ?_ | (refine zT ?_ ?_ <;> intro h <;> first | exact zX | refine zNq ?_)))
  refine ⟨(k + 1, cap'), ⟨hkT, by rw [take_all hkT, hall, hf]; rfl⟩, by dsimp only; omega, ?_, ?_⟩
  all_goals simp only [take_map hkT, take_all hkT, List.length_append, List.map_append, List.map_cons, List.map_nil]
  ·(exact zLe)
  ·exact ⟨.inl rfl, .inl rfl, .inl rfl, .inl rfl, .inl rfl, .inl rfl, .inl rfl, .inl rfl, .inl rfl, trivial⟩
 all_goals
  obtain rfl : k = T.length := by omega
  simp only [List.take_length] at *
  rw [if_neg (by rw [hall]; simp)]
 ·rw [if_pos h]
  exact ⟨_, _, _, rfl, ⟨c, rfl, rfl⟩, .inr (.inl rfl), zF, rfl, rfl⟩
 ·rename_i g1
  rw [if_neg g1, if_pos (by omega)]
  exact ⟨_, _, _, rfl, ⟨c, rfl, rfl⟩, .inr (.inl rfl), zF, rfl, rfl⟩
 rename_i g1
 rw [if_neg g1, if_neg (by omega)]
 refine pw_frzB 8 7 (cs1 := [.str (w.getD 1 [])]) (cs2 := []) rfl rfl rfl (by decide) ?_
 refine pw_normV rfl ?_
 refine zNq ?_
 have hsm : Small i.groups := by unfold Small; omega
 (repeat' (first | (refine zDr [[0,1,2,3,4],[5],[6,7]] ?_; refine zDn ?_) | (refine zDr [[0,1,2,3,4,5],[6],[7],[8]] ?_; refine zDn ?_) | refine zS ?_ | refine zD ?_ | refine po_both ?_ ?_ | refine pwt_both ?_ ?_ | refine pwt_fork ?_ | refine pwt_lin ?_ | (refine po_test rfl rfl rfl rfl zB ?_ ?_ <;> intro hb <;> first | exact zX | refine zDn ?_) | refine zq5 ?_ | refine zq6 ?_ | (refine zT ?_ ?_ <;> intro h <;> first | exact zX | refine zNq ?_)))
 ·rw [if_pos (show 0 ≤ firstAt (fun d : TDef => d.name == w.getD 1 []) i.groups from h)]
  exact ⟨_, _, _, rfl, ⟨c, rfl, rfl⟩, .inr (.inl rfl), zF, rfl, rfl⟩
 ·rename_i g2
  rw [if_neg (show ¬ 0 ≤ firstAt (fun d : TDef => d.name == w.getD 1 []) i.groups from g2), if_pos (by omega)]
  exact ⟨_, _, _, rfl, ⟨c, rfl, rfl⟩, .inr (.inl rfl), zF, rfl, rfl⟩
 ·rename_i g2
  rw [if_neg (show ¬ 0 ≤ firstAt (fun d : TDef => d.name == w.getD 1 []) i.groups from g2), if_neg (by omega)]
  (refine po_step rfl rfl (op_append (b := 40) hT rfl rfl rfl rfl rfl rfl (.inl (Nat.zero_lt_succ _)) rfl rfl (by simp; omega) (fun cap' _ hcap => ⟨zLok, ?_⟩)); refine zDn ?_)
  refine zD ?_
  (refine pw_mv 1 9 hD rfl rfl rfl rfl rfl ?_; refine pw_norm rfl ?_)
  (repeat' (first | refine zS ?_ | refine zq5 ?_ | refine zq6 ?_ | (refine zT ?_ ?_ <;> intro h <;> first | exact zX | refine zNq ?_)))
  refine ⟨_, _, _, rfl, ⟨(cap' , c.2), rfl, rfl⟩, .inr (.inl rfl), ?_, rfl, rfl⟩
  simp only [List.map_append, List.length_append]
  exact zF
theorem c_defineS (hG : GM Gl) (i : TInt) (hi : i.services.length ≤ 32) (c : ICaps) (w : List Str) (sv : Bool) (hw : WOk w) (hl : w.length ≤ 1000) : PCalls Tryz.prog Gl 46 [.ptr 0 1, .sl (w.map .str), .bool sv] (ist i c) fun r s => ∃ c', r = .int .i64 (pDef i.services w sv).1 ∧ s = ist { i with services := (pDef i.services w sv).2 } c' := by
 refine PCalls.of hT Tryz.func46 rfl 7 (Nat.le_refl _) fun B hD => ?_
 refine pw_norm rfl ?_
 have hdl : (w.drop 3).length ≤ 1000 := by rw [List.length_drop]; omega
 have hlg : (i.services.map eDef).length = i.services.length := List.length_map ..
 (repeat' (first | refine zS ?_ | refine zq5 ?_ | refine zq6 ?_ | (refine zT ?_ ?_ <;> intro h <;> first | exact zX | refine zNq ?_)))
 ·rw [show pDef i.services w sv = (4, i.services) from by unfold pDef; (repeat (first | refine (if_pos (by assumption)).trans ?_ | refine (if_neg (by assumption)).trans ?_)); rfl]
  exact ⟨_, _, _, rfl, ⟨c, rfl, rfl⟩, .inr (.inl rfl), zF, rfl, rfl⟩
 ·rw [show pDef i.services w sv = (4, i.services) from by unfold pDef; (repeat (first | refine (if_pos (by assumption)).trans ?_ | refine (if_neg (by assumption)).trans ?_)); rfl]
  exact ⟨_, _, _, rfl, ⟨c, rfl, rfl⟩, .inr (.inl rfl), zF, rfl, rfl⟩
 rename_i g0
 have hok := Decidable.not_not.1 h
 have hT1 := (items_ok hw 3).1
 have hT2 := (items_ok hw 3).2
 have hT3 := items_len (w.drop 3)
 have hpd : pDef i.services w sv = if ¬ (itemsT (w.drop 3)).1.all (fun x => (rdItem x sv).2.1) = true then (4, i.services) else
   if ¬ (itemsT (w.drop 3)).1.all (fun x => (rdItem x sv).2.2) = true then (2, i.services) else if 16 < (itemsT (w.drop 3)).1.length then (3, i.services) else
   if 0 ≤ firstAt (fun d => d.name == w.getD 1 []) i.services then (6, i.services) else if 32 ≤ i.services.length then (3, i.services) else (0, i.services ++ [⟨w.getD 1 [], (itemsT (w.drop 3)).1.map fun x => (rdItem x sv).1⟩]) := by
  unfold pDef
  rw [if_neg g0, if_neg (by rw [hok]; simp)]
 rw [hpd]
 generalize (itemsT (w.drop 3)).1 = T at hT1 hT2 hT3 ⊢
 clear hpd
 have hml : (T.map fun x => (rdItem x sv).1).length = T.length := List.length_map ..
 refine pw_ghost 7 ?_
 refine zNq ?_
 refine pw_for hD (fun a : Nat × Nat => [(10, .bool ((T.take a.1).all fun x => (rdItem x sv).2.2)), (46, .int .i64 a.1)]) (fun a => ist i c ++ [.box [.str (w.getD 1 []), .msl 7 8 0 (((T.take a.1).map fun x => (rdItem x sv).1).map eItem).length a.2], .arr 7 (((T.take a.1).map fun x => (rdItem x sv).1).map eItem) a.2])
  (fun a => a.1 ≤ T.length ∧ (T.take a.1).all (fun x => (rdItem x sv).2.1) = true) (fun a => T.length - a.1) (0, 0) ⟨Nat.zero_le _, rfl⟩ 9 rfl (fun _ => rfl)
  ?_ (fun _ => rfl) (fun _ => rfl) zLe ?_
 ·show StLe (ist i c ++ [.box [.str (w.getD 1 []), .nilsl], .arr 7 [] 0]) _
  exact ⟨.inl rfl, .inl rfl, .inl rfl, .inl rfl, .inl rfl, .inl rfl, .inl rfl, .inr (.inr ⟨_, _, rfl, rfl, zLe⟩), .inl rfl, trivial⟩
 rintro ⟨k, cap⟩ ⟨hk, hall⟩
 dsimp only at hk hall ⊢
 unfold ist
 refine zNq ?_
 have hrow : ∀ n, ((T.getD k default).getD n []).length < 4294967281 := fun n => by
  rw [@List.getD_eq_getElem?_getD _ T]
  cases h : T[k]? with
  | none => show (([] : List Str).getD n []).length < _; simp
  | some x => exact hT1 x (List.mem_of_getElem? h) n
 have hrow2 : (T.getD k default).length ≤ w.length := by
  rw [@List.getD_eq_getElem?_getD _ T]
  cases h : T[k]? with
  | none => exact Nat.zero_le _
  | some x => exact hT2 x (List.mem_of_getElem? h)
 have htl : (T.take k).length ≤ k := List.length_take_le ..
 (repeat' (first | refine zS ?_ | refine zq5 ?_ | refine zq6 ?_ | (refine zT ?_ ?_ <;> intro h <;> first | exact zX | refine zNq ?_)))
 ·have hkT : k < T.length := by omega
  rw [if_pos (by rw [List.all_eq_true]; intro hh; exact h (hh _ (by rw [List.getD, List.getElem?_eq_getElem hkT]; exact List.getElem_mem hkT)))]
  exact ⟨_, _, _, rfl, ⟨c, rfl, rfl⟩, .inr (.inl rfl), zF, rfl, rfl⟩
 ·have hkT : k < T.length := by omega
  have hf := Decidable.not_not.1 h
  (refine pl_append (b := 56) hT hD rfl rfl rfl rfl rfl rfl rfl rfl (.inl (Nat.zero_lt_succ _)) rfl rfl (by simp; omega) (fun cap' _ hcap => ?_); (refine zNp ?_))
  (repeat' (first | refine zS ?_ | refine zq5 ?_ | refine zq6 ?_ | (refine zT ?_ ?_ <;> intro h <;> first | exact zX | refine zNq ?_)))
  refine ⟨(k + 1, cap'), ⟨hkT, by rw [take_all hkT, hall, hf]; rfl⟩, by dsimp only; omega, ?_, ?_⟩
  all_goals simp only [take_map hkT, take_all hkT, List.length_append, List.map_append, List.map_cons, List.map_nil]
  ·(exact zLe)
  ·exact ⟨.inl rfl, .inl rfl, .inl rfl, .inl rfl, .inl rfl, .inl rfl, .inl rfl, .inl rfl, .inl rfl, trivial⟩
 all_goals
  obtain rfl : k = T.length := by omega
  simp only [List.take_length] at *
  rw [if_neg (by rw [hall]; simp)]
 ·rw [if_pos h]
  exact ⟨_, _, _, rfl, ⟨c, rfl, rfl⟩, .inr (.inl rfl), zF, rfl, rfl⟩
 ·rename_i g1
  rw [if_neg g1, if_pos (by omega)]
  exact ⟨_, _, _, rfl, ⟨c, rfl, rfl⟩, .inr (.inl rfl), zF, rfl, rfl⟩
 rename_i g1
 rw [if_neg g1, if_neg (by omega)]
 refine pw_frzB 8 7 (cs1 := [.str (w.getD 1 [])]) (cs2 := []) rfl rfl rfl (by decide) ?_
 refine pw_normV rfl ?_
 refine zNq ?_
 have hsm : Small i.services := by unfold Small; omega
 (repeat' (first | (refine zDr [[0,1,2,3,4],[5],[6,7]] ?_; refine zDn ?_) | (refine zDr [[0,1,2,3,4,5],[6],[7],[8]] ?_; refine zDn ?_) | refine zS ?_ | refine zD ?_ | refine po_both ?_ ?_ | refine pwt_both ?_ ?_ | refine pwt_fork ?_ | refine pwt_lin ?_ | (refine po_test rfl rfl rfl rfl zB ?_ ?_ <;> intro hb <;> first | exact zX | refine zDn ?_) | refine zq5 ?_ | refine zq6 ?_ | (refine zT ?_ ?_ <;> intro h <;> first | exact zX | refine zNq ?_)))
 ·rw [if_pos (show 0 ≤ firstAt (fun d : TDef => d.name == w.getD 1 []) i.services from h)]
  exact ⟨_, _, _, rfl, ⟨c, rfl, rfl⟩, .inr (.inl rfl), zF, rfl, rfl⟩
 ·rename_i g2
  rw [if_neg (show ¬ 0 ≤ firstAt (fun d : TDef => d.name == w.getD 1 []) i.services from g2), if_pos (by omega)]
  exact ⟨_, _, _, rfl, ⟨c, rfl, rfl⟩, .inr (.inl rfl), zF, rfl, rfl⟩
 ·rename_i g2
  rw [if_neg (show ¬ 0 ≤ firstAt (fun d : TDef => d.name == w.getD 1 []) i.services from g2), if_neg (by omega)]
  (refine po_step rfl rfl (op_append (b := 40) hT rfl rfl rfl rfl rfl rfl (.inl (Nat.zero_lt_succ _)) rfl rfl (by simp; omega) (fun cap' _ hcap => ⟨zLok, ?_⟩)); refine zDn ?_)
  refine zD ?_
  (refine pw_mv 2 9 hD rfl rfl rfl rfl rfl ?_; refine pw_norm rfl ?_)
  (repeat' (first | refine zS ?_ | refine zq5 ?_ | refine zq6 ?_ | (refine zT ?_ ?_ <;> intro h <;> first | exact zX | refine zNq ?_)))
  refine ⟨_, _, _, rfl, ⟨(c.1 , cap' , c.2.2), rfl, rfl⟩, .inr (.inl rfl), ?_, rfl, rfl⟩
  simp only [List.map_append, List.length_append]
  exact zF
end
section
variable {Gl : Glob}
attribute [local irreducible] PW PWL OpP PCalls PWO PWT bothT
def sRanges : Str := [114, 97, 110, 103, 101, 115]
def sVol : Str := [118, 111, 108, 97, 116, 105, 108, 101]
def sClass : Str := [99, 108, 97, 115, 115]
def optN (w : List Str) (n : Nat) (word : Str) : Nat := match w[n]? == some word with | true => n + 1 | false => n
def n1 (w : List Str) : Nat := optN w 4 sRanges
def n2 (w : List Str) : Nat := optN w (n1 w) sVol
def n3 (w : List Str) : Nat := optN w (n2 w) sClass
structure TLim (t : Topo) : Prop where
 devs : t.devs.length ≤ 12
 links : t.links.length ≤ 24
 edges : t.edges.length ≤ 12
 pools : t.pools.length ≤ 8
theorem TLim.ok {t : Topo} (h : TLim t) : TOk t := ⟨by have := h.devs; unfold Small; omega, by have := h.links; unfold Small; omega, by have := h.edges; unfold Small; omega, by have := h.pools; unfold Small; omega⟩
structure LOk (l : List TLine) : Prop where
 some : ∀ x ∈ l, 0 < x.words.length
 ok : ∀ x ∈ l, WOk x.words
 few : l.length < 2 ^ 30
end
section
theorem sub_le (s : Str) (a b : Nat) : (sub s a b).length ≤ s.length := by
 unfold sub; simp; omega
theorem endW_each {s : Str} {out : List Str} {st : Option Nat} {n : Nat} (h : ∀ x ∈ out, x.length ≤ s.length) : ∀ x ∈ endW s out st n, x.length ≤ s.length := by
 intro x hx
 unfold endW at hx
 split at hx
 ·rcases List.mem_append.1 hx with hx | hx
  ·exact h x hx
  ·rw [List.mem_singleton] at hx; subst hx; exact sub_le _ _ _
 ·exact h x hx
theorem wrun_each (s : Str) : ∀ (n i : Nat) (out : List Str) (st : Option Nat), (∀ x ∈ out, x.length ≤ s.length) → ∀ x ∈ wrun s n i out st, x.length ≤ s.length
 | 0, i, out, st, h => endW_each h
 | n + 1, i, out, st, h => by
  rw [wrun]
  split
  ·exact endW_each h
  ·split
   ·exact endW_each h
   ·split
    ·exact wrun_each s n _ _ _ (endW_each h)
    ·split
     ·refine wrun_each s n _ _ _ fun x hx => ?_
      rcases List.mem_append.1 hx with hx | hx
      ·exact endW_each h x hx
      ·rw [List.mem_singleton] at hx; subst hx; exact sub_le _ _ _
     ·exact wrun_each s n _ _ _ h
theorem words_each (s : Str) : ∀ x ∈ words s, x.length ≤ s.length := wrun_each s _ _ _ _ (by simp)
theorem lrun_ok (N : Nat) (hN : N ≤ 16384) : ∀ (ls : List Str) (i : Nat) (out : List TLine), (∀ p ∈ ls, p.length ≤ N) → (∀ x ∈ out, 0 < x.words.length ∧ WOk x.words) →
  (∀ x ∈ (lrun ls i out).1, 0 < x.words.length ∧ WOk x.words) ∧ (lrun ls i out).1.length ≤ out.length + ls.length
 | [], i, out, _, ho => ⟨ho, by simp [lrun]⟩
 | l :: ls, i, out, hp, ho => by
  rw [lrun]
  have hl := hp l (List.mem_cons_self ..)
  have hp' : ∀ p ∈ ls, p.length ≤ N := fun p h => hp p (List.mem_cons_of_mem _ h)
  split
  ·exact ⟨by simp, by simp⟩
  ·split
   ·exact ⟨by simp, by simp⟩
   ·rename_i h64
    split
    ·rename_i hpos
     have h1 := lrun_ok N hN ls (i + 1) (out ++ [⟨(i : Int) + 1, words l⟩]) hp' (fun x hx => by
      rcases List.mem_append.1 hx with hx | hx
      ·exact ho x hx
      ·rw [List.mem_singleton] at hx; subst hx
       refine ⟨by simp at hpos; show 0 < (words l).length; omega, ⟨by simp at h64; unfold Small; show (words l).length < _; omega, fun w hw => ?_⟩⟩
       have := words_each l w hw
       omega)
     refine ⟨h1.1, ?_⟩
     have := h1.2
     simp at this ⊢
     omega
    ·have h1 := lrun_ok N hN ls (i + 1) out hp' ho
     refine ⟨h1.1, ?_⟩
     have := h1.2
     simp at this ⊢
     omega
theorem lines_ok (s : Str) : LOk (lines s).1 := by
 unfold lines
 split
 ·exact ⟨by simp, by simp, by simp⟩
 ·rename_i h
  simp only [decide_eq_true_eq] at h
  have h1 := lrun_ok s.length (by omega) (splitAt 10 s) 0 [] (fun p hp => splitAt_size hp) (by simp)
  refine ⟨fun x hx => (h1.1 x hx).1, fun x hx => (h1.1 x hx).2, ?_⟩
  have h2 := h1.2
  rw [splitAt_len] at h2
  have := List.count_le_length (a := (10 : UInt8)) (l := s)
  simp at h2
  omega
def rdRef (w : Str) : Str × Bool := if w = [97, 110, 121] then ([], true) else (w, vname w)
structure TRd where
 s : TStm
 ok : Bool
 rest : List Str
def sHead (w : List Str) : TRd := ⟨⟨w.getD 0 [] == [97, 108, 108, 111, 119], (rdRef (w.getD 1 [])).1, (rdRef (w.getD 3 [])).1, (rdRef (w.getD 4 [])).1, false, [], [], [], [], 0⟩, ((true && (rdRef (w.getD 1 [])).2) && (rdRef (w.getD 3 [])).2) && (rdRef (w.getD 4 [])).2, w.drop 5⟩
def sExc (x : TRd) : TRd :=
 if ((x.rest.length : Int) ≥ 4 ∧ x.rest.getD 0 [] = [101, 120, 99, 101, 112, 116]) ∧ x.rest.getD 2 [] = [45, 62] then
  ⟨{ x.s with excepted := true, exSrc := (rdRef (x.rest.getD 1 [])).1, exDst := (rdRef (x.rest.getD 3 [])).1 }, (x.ok && (rdRef (x.rest.getD 1 [])).2) && (rdRef (x.rest.getD 3 [])).2, x.rest.drop 4⟩ else x
def sVia (x : TRd) : TRd :=
 if (x.s.permit = true ∧ (x.rest.length : Int) ≥ 2) ∧ x.rest.getD 0 [] = [118, 105, 97] then ⟨{ x.s with cls := x.rest.getD 1 [] }, x.ok && vname (x.rest.getD 1 []), x.rest.drop 2⟩ else x
def sDur (x : TRd) : TRd :=
 if (x.rest.length : Int) ≥ 2 ∧ x.rest.getD 0 [] = [100, 117, 114, 105, 110, 103] then ⟨{ x.s with during := x.rest.getD 1 [] }, x.ok && vname (x.rest.getD 1 []), x.rest.drop 2⟩ else x
def sPri (x : TRd) : TRd × Bool :=
 if (x.rest.length : Int) ≥ 2 ∧ x.rest.getD 0 [] = [112, 114, 105, 111, 114, 105, 116, 121] then (⟨{ x.s with prio := (number (x.rest.getD 1 []) 0 1000).1 }, x.ok && digitsB (x.rest.getD 1 []), x.rest.drop 2⟩, (number (x.rest.getD 1 []) 0 1000).2) else (x, true)
def stm0 : TStm := ⟨false, [], [], [], false, [], [], [], [], 0⟩
def rdStm (w : List Str) : Int × TStm :=
 if (w.length : Int) < 5 ∨ ¬ w.getD 2 [] = [45, 62] then (4, stm0) else
 if ¬ (sPri (sDur (sVia (sExc (sHead w))))).1.ok = true ∨ 0 < (sPri (sDur (sVia (sExc (sHead w))))).1.rest.length then (4, stm0) else
 if ¬ (sPri (sDur (sVia (sExc (sHead w))))).2 = true then (2, stm0) else (0, (sPri (sDur (sVia (sExc (sHead w))))).1.s)
def pStm (l : List TStm) (w : List Str) : Int × List TStm :=
 if ¬ (rdStm w).1 = 0 then ((rdStm w).1, l) else if 64 ≤ l.length then (3, l) else (0, l ++ [(rdStm w).2])
structure RdOk (x : TRd) : Prop where
 len : x.rest.length ≤ 1000
 each : ∀ k, (x.rest.getD k []).length < 4294967281
theorem RdOk.drop {l : List Str} (h1 : l.length ≤ 1000) (h2 : ∀ k, (l.getD k []).length < 4294967281) (n : Nat) : (l.drop n).length ≤ 1000 ∧ ∀ k, ((l.drop n).getD k []).length < 4294967281 := by
 refine ⟨by rw [List.length_drop]; omega, fun k => ?_⟩
 have := h2 (n + k)
 rwa [List.getD_eq_getElem?_getD, List.getElem?_drop, ← List.getD_eq_getElem?_getD]
theorem sHead_ok {w : List Str} (h1 : w.length ≤ 1000) (h2 : ∀ k, (w.getD k []).length < 4294967281) : RdOk (sHead w) := ⟨(RdOk.drop h1 h2 5).1, (RdOk.drop h1 h2 5).2⟩
theorem sExc_ok {x : TRd} (h : RdOk x) : RdOk (sExc x) := by unfold sExc; split; exact ⟨(RdOk.drop h.len h.each 4).1, (RdOk.drop h.len h.each 4).2⟩; exact h
theorem sVia_ok {x : TRd} (h : RdOk x) : RdOk (sVia x) := by unfold sVia; split; exact ⟨(RdOk.drop h.len h.each 2).1, (RdOk.drop h.len h.each 2).2⟩; exact h
theorem sDur_ok {x : TRd} (h : RdOk x) : RdOk (sDur x) := by unfold sDur; split; exact ⟨(RdOk.drop h.len h.each 2).1, (RdOk.drop h.len h.each 2).2⟩; exact h
theorem sPri_ok {x : TRd} (h : RdOk x) : RdOk (sPri x).1 := by unfold sPri; split; exact ⟨(RdOk.drop h.len h.each 2).1, (RdOk.drop h.len h.each 2).2⟩; exact h
def pubF : List Str := [[112, 117, 98, 108, 105, 115, 104], [65, 68, 68, 82, 69, 83, 83], [80, 82, 79, 84, 79, 67, 79, 76], [78], [97, 116], [78, 65, 77, 69], [116, 111], [65, 68, 68, 82, 69, 83, 83], [78]]
def hidF : List Str := [[104, 105, 100, 101], [78, 65, 77, 69], [97, 116], [78, 65, 77, 69], [98, 101, 104, 105, 110, 100], [65, 68, 68, 82, 69, 83, 83], [112, 111, 114, 116, 115], [80, 79, 82, 84, 83]]
def protoOf (w : Str) : Int := if w = [116, 99, 112] then 6 else if w = [117, 100, 112] then 17 else 0
def pPub (l : List TPub) (w : List Str) : Int × List TPub :=
 if ((¬ formB w pubF = true ∨ ¬ digitsB (w.getD 3 []) = true) ∨ ¬ digitsB (w.getD 8 []) = true) ∨ ¬ vname (w.getD 5 []) = true then (4, l) else
 if (protoOf (w.getD 2 []) = 0 ∨ ¬ (addr (w.getD 1 [])).2 = true) ∨ ¬ (addr (w.getD 7 [])).2 = true then (4, l) else
 if ¬ (number (w.getD 3 []) 0 65535).2 = true ∨ ¬ (number (w.getD 8 []) 0 65535).2 = true then (2, l) else
 if 16 ≤ l.length then (3, l) else (0, l ++ [⟨(addr (w.getD 1 [])).1, protoOf (w.getD 2 []), (number (w.getD 3 []) 0 65535).1, w.getD 5 [], (addr (w.getD 7 [])).1, (number (w.getD 8 []) 0 65535).1⟩])
def pHid (l : List THid) (w : List Str) : Int × List THid :=
 if (¬ formB w hidF = true ∨ ¬ vname (w.getD 1 []) = true) ∨ ¬ vname (w.getD 3 []) = true then (4, l) else
 if ¬ (addr (w.getD 5 [])).2 = true ∨ ¬ (portsT (w.getD 7 [])).2 = true then (4, l) else
 if (portsT (w.getD 7 [])).1.lo < 1024 then (2, l) else
 if 8 ≤ l.length then (3, l) else (0, l ++ [⟨w.getD 1 [], w.getD 3 [], (addr (w.getD 5 [])).1, (portsT (w.getD 7 [])).1⟩])
theorem form_len {w p : List Str} (h : formB w p = true) : w.length = p.length := by
 unfold formB eqf at h
 rw [Bool.and_eq_true, decide_eq_true_eq] at h
 exact h.1
variable {Gl : Glob}
attribute [local irreducible] PW PWL OpP PCalls PWO formB vname digitsB addr portsT number PWT bothT
theorem op_proto {B : Base} {env : List PV} {st : List PObj} {o : Oper} {K : PV → List PObj → Prop} {m x : Operand} {i : Nat} {s : Str} (ho : o.op = .lookup 155 m x false) (hm : pe env m = .map i) (hx : pe env x = .str s)
  (hst : st[i]? = some (.map [([116, 99, 112], .int .i64 6), ([117, 100, 112], .int .i64 17)])) (hK : K (.int .i64 (protoOf s)) st) : OpP Tryz.prog Gl B o env st K := by
 unfold protoOf at hK
 by_cases h1 : s = [116, 99, 112]
 ·rw [if_pos h1] at hK
  exact op_lookV (j := 0) hT ho rfl rfl hm hx hst (by rw [h1]; rfl) rfl hK
 ·rw [if_neg h1] at hK
  by_cases h2 : s = [117, 100, 112]
  ·rw [if_pos h2] at hK
   exact op_lookV (j := 1) hT ho rfl rfl hm hx hst (by rw [h2]; rfl) (by rw [h2]; rfl) hK
  ·rw [if_neg h2] at hK
   exact op_lookV0 hT ho rfl rfl (show (Tryz.prog.info? 3).bind (·.zero) = some (.int .i64 0) by kernel_rfl) hm hx hst (by
    have q1 : ([116, 99, 112] == s) = false := by rw [beq_eq_false_iff_ne]; exact fun e => h1 e.symm
    have q2 : ([117, 100, 112] == s) = false := by rw [beq_eq_false_iff_ne]; exact fun e => h2 e.symm
    rw [List.all_cons, List.all_cons, q1, q2]; rfl) hK
theorem c_publish (_hG : GM Gl) (i : TInt) (hi : i.pubs.length ≤ 16) (c : ICaps) (w : List Str) (hw : WOk w) (_hl : w.length ≤ 1000) : PCalls Tryz.prog Gl 49 [.ptr 0 0, .sl (w.map .str)] (ist i c) fun r s => ∃ c', r = .int .i64 (pPub i.pubs w).1 ∧ s = ist { i with pubs := (pPub i.pubs w).2 } c' := by
 refine PCalls.of hT Tryz.func49 rfl 7 (Nat.le_refl _) fun B hD => ?_
 unfold ist
 refine pw_norm rfl ?_
 have hlg : (i.pubs.map ePub).length = i.pubs.length := List.length_map ..
 have hw1 := hw.at 1
 have hw2 := hw.at 2
 have hw3 := hw.at 3
 have hw5 := hw.at 5
 have hw7 := hw.at 7
 have hw8 := hw.at 8
 by_cases hf : formB w pubF = true
 case neg =>
  haveI : ConF Tryz.prog Gl 103 [.sl (w.map .str), .sl [.str [112, 117, 98, 108, 105, 115, 104], .str [65, 68, 68, 82, 69, 83, 83], .str [80, 82, 79, 84, 79, 67, 79, 76], .str [78], .str [97, 116], .str [78, 65, 77, 69], .str [116, 111], .str [65, 68, 68, 82, 69, 83, 83], .str [78]]] True (.bool false) := ⟨e103, fun _ => by have := c_formI (Gl := Gl) w pubF hw.len (by decide); rwa [show formB w pubF = false by simpa using hf] at this⟩
  (repeat' (first | (refine zDr [[0,1,2,3,4,5,6,7,8,9,10,11,12,13,14],[15],[16,17],[18]] ?_; refine zDn ?_) | refine zS ?_ | refine zD ?_ | refine po_both ?_ ?_ | refine pwt_both ?_ ?_ | refine pwt_fork ?_ | refine pwt_lin ?_ | (refine po_test rfl rfl rfl rfl zB ?_ ?_ <;> intro hb <;> first | exact zX | refine zDn ?_) | refine zq5 ?_ | refine zq6 ?_ | (refine zT ?_ ?_ <;> intro h <;> first | exact zX | refine zNq ?_)))
  rw [show pPub i.pubs w = (4, i.pubs) from by unfold pPub; rw [if_pos (.inl (.inl (.inl hf)))]]
  exact ⟨_, _, _, rfl, ⟨c, rfl, rfl⟩, .inr (.inl rfl), zF, rfl, rfl⟩
 have hlen : w.length = 9 := form_len hf
 haveI : ConF Tryz.prog Gl 103 [.sl (w.map .str), .sl [.str [112, 117, 98, 108, 105, 115, 104], .str [65, 68, 68, 82, 69, 83, 83], .str [80, 82, 79, 84, 79, 67, 79, 76], .str [78], .str [97, 116], .str [78, 65, 77, 69], .str [116, 111], .str [65, 68, 68, 82, 69, 83, 83], .str [78]]] True (.bool true) := ⟨e103, fun _ => by have := c_formI (Gl := Gl) w pubF hw.len (by decide); rwa [hf] at this⟩
 (repeat' (first | (refine zDr [[0,1,2,3,4,5,6,7,8,9,10,11,12,13,14],[15],[16,17],[18]] ?_; refine zDn ?_) | refine zS ?_ | refine zD ?_ | refine po_both ?_ ?_ | refine pwt_both ?_ ?_ | refine pwt_fork ?_ | refine pwt_lin ?_ | (refine po_test rfl rfl rfl rfl zB ?_ ?_ <;> intro hb <;> first | exact zX | refine zDn ?_) | refine zq5 ?_ | refine zq6 ?_ | (refine zT ?_ ?_ <;> intro h <;> first | exact zX | refine zNq ?_)))
 ·rw [show pPub i.pubs w = (4, i.pubs) from by unfold pPub; rw [if_pos (by rcases h with (h | h) | h; exact .inl (.inl (.inr h)); exact .inl (.inr h); exact .inr h)]]
  exact ⟨_, _, _, rfl, ⟨c, rfl, rfl⟩, .inr (.inl rfl), zF, rfl, rfl⟩
 have hp : pPub i.pubs w = if (protoOf (w.getD 2 []) = 0 ∨ ¬ (addr (w.getD 1 [])).2 = true) ∨ ¬ (addr (w.getD 7 [])).2 = true then (4, i.pubs) else
   if ¬ (number (w.getD 3 []) 0 65535).2 = true ∨ ¬ (number (w.getD 8 []) 0 65535).2 = true then (2, i.pubs) else
   if 16 ≤ i.pubs.length then (3, i.pubs) else (0, i.pubs ++ [⟨(addr (w.getD 1 [])).1, protoOf (w.getD 2 []), (number (w.getD 3 []) 0 65535).1, w.getD 5 [], (addr (w.getD 7 [])).1, (number (w.getD 8 []) 0 65535).1⟩]) := by
  unfold pPub
  rw [if_neg (by rintro (((q | q) | q) | q); exact q hf; exact h (.inl (.inl q)); exact h (.inl (.inr q)); exact h (.inr q))]
 rw [hp]
 clear hp
 (refine pl_op rfl (op_mkmap rfl ?_); (refine zNp ?_))
 (refine pl_op rfl (op_insert hT rfl rfl rfl rfl rfl rfl rfl rfl ?_); (refine zNp ?_))
 (refine pl_op rfl (op_insert hT rfl rfl rfl rfl rfl rfl rfl rfl ?_); (refine zNp ?_))
 (repeat' (first | refine zS ?_ | refine zq5 ?_ | refine zq6 ?_ | (refine zT ?_ ?_ <;> intro h <;> first | exact zX | refine zNq ?_)))
 refine pl_op rfl (op_proto rfl rfl rfl rfl ?_)
 refine zNp ?_
 (repeat' (first | (refine zDr [[0,1,2,3,4,5,6,7,8,9,10,11,12,13,14],[15],[16,17],[18]] ?_; refine zDn ?_) | refine zS ?_ | refine zD ?_ | refine po_both ?_ ?_ | refine pwt_both ?_ ?_ | refine pwt_fork ?_ | refine pwt_lin ?_ | (refine po_test rfl rfl rfl rfl zB ?_ ?_ <;> intro hb <;> first | exact zX | refine zDn ?_) | refine zq5 ?_ | refine zq6 ?_ | (refine zT ?_ ?_ <;> intro h <;> first | exact zX | refine zNq ?_)))
 ·rw [if_pos h]
  exact ⟨_, _, _, rfl, ⟨c, rfl, rfl⟩, .inr (.inl rfl), zF, rfl, rfl⟩
 ·rename_i g1
  rw [if_neg g1, if_pos h]
  exact ⟨_, _, _, rfl, ⟨c, rfl, rfl⟩, .inr (.inl rfl), zF, rfl, rfl⟩
 ·rename_i g1 g2
  rw [if_neg g1, if_neg g2, if_pos (by omega)]
  exact ⟨_, _, _, rfl, ⟨c, rfl, rfl⟩, .inr (.inl rfl), zF, rfl, rfl⟩
 rename_i g1 g2
 rw [if_neg g1, if_neg g2, if_neg (by omega)]
 (refine po_step rfl rfl (op_append (b := 56) hT rfl rfl rfl rfl rfl rfl (.inl (Nat.zero_lt_succ _)) rfl rfl (by simp; omega) (fun cap' _ hcap => ⟨zLok, ?_⟩)); refine zDn ?_)
 refine zD ?_
 (refine pw_mv 5 8 hD rfl rfl rfl rfl rfl ?_; refine pw_norm rfl ?_)
 (repeat' (first | refine zS ?_ | refine zq5 ?_ | refine zq6 ?_ | (refine zT ?_ ?_ <;> intro h <;> first | exact zX | refine zNq ?_)))
 refine ⟨_, _, _, rfl, ⟨(c.1, c.2.1, c.2.2.1, c.2.2.2.1, cap', c.2.2.2.2.2), rfl, rfl⟩, .inr (.inl rfl), ?_, rfl, rfl⟩
 simp only [List.map_append, List.length_append]
 exact zF
theorem c_hide (hG : GM Gl) (i : TInt) (hi : i.hids.length ≤ 8) (c : ICaps) (w : List Str) (hw : WOk w) (_hl : w.length ≤ 1000) : PCalls Tryz.prog Gl 50 [.ptr 0 0, .sl (w.map .str)] (ist i c) fun r s => ∃ c', r = .int .i64 (pHid i.hids w).1 ∧ s = ist { i with hids := (pHid i.hids w).2 } c' := by
 refine PCalls.of hT Tryz.func50 rfl 7 (Nat.le_refl _) fun B hD => ?_
 unfold ist
 refine pw_norm rfl ?_
 have hlg : (i.hids.map eHid).length = i.hids.length := List.length_map ..
 have hw1 := hw.at 1
 have hw3 := hw.at 3
 have hw5 := hw.at 5
 have hw7 := hw.at 7
 by_cases hf : formB w hidF = true
 case neg =>
  haveI : ConF Tryz.prog Gl 103 [.sl (w.map .str), .sl [.str [104, 105, 100, 101], .str [78, 65, 77, 69], .str [97, 116], .str [78, 65, 77, 69], .str [98, 101, 104, 105, 110, 100], .str [65, 68, 68, 82, 69, 83, 83], .str [112, 111, 114, 116, 115], .str [80, 79, 82, 84, 83]]] True (.bool false) := ⟨e103, fun _ => by have := c_formI (Gl := Gl) w hidF hw.len (by decide); rwa [show formB w hidF = false by simpa using hf] at this⟩
  (repeat' (first | (refine zDr [[0,1,2,3,4,5,6,7,8,9,10,11,12,13,14],[15],[16,17],[18]] ?_; refine zDn ?_) | refine zS ?_ | refine zD ?_ | refine po_both ?_ ?_ | refine pwt_both ?_ ?_ | refine pwt_fork ?_ | refine pwt_lin ?_ | (refine po_test rfl rfl rfl rfl zB ?_ ?_ <;> intro hb <;> first | exact zX | refine zDn ?_) | refine zq5 ?_ | refine zq6 ?_ | (refine zT ?_ ?_ <;> intro h <;> first | exact zX | refine zNq ?_)))
  rw [show pHid i.hids w = (4, i.hids) from by unfold pHid; rw [if_pos (.inl (.inl hf))]]
  exact ⟨_, _, _, rfl, ⟨c, rfl, rfl⟩, .inr (.inl rfl), zF, rfl, rfl⟩
 have hlen : w.length = 8 := form_len hf
 haveI : ConF Tryz.prog Gl 103 [.sl (w.map .str), .sl [.str [104, 105, 100, 101], .str [78, 65, 77, 69], .str [97, 116], .str [78, 65, 77, 69], .str [98, 101, 104, 105, 110, 100], .str [65, 68, 68, 82, 69, 83, 83], .str [112, 111, 114, 116, 115], .str [80, 79, 82, 84, 83]]] True (.bool true) := ⟨e103, fun _ => by have := c_formI (Gl := Gl) w hidF hw.len (by decide); rwa [hf] at this⟩
 have hp : ¬ (¬ vname (w.getD 1 []) = true ∨ ¬ vname (w.getD 3 []) = true) → pHid i.hids w = if ¬ (addr (w.getD 5 [])).2 = true ∨ ¬ (portsT (w.getD 7 [])).2 = true then (4, i.hids) else
   if (portsT (w.getD 7 [])).1.lo < 1024 then (2, i.hids) else
   if 8 ≤ i.hids.length then (3, i.hids) else (0, i.hids ++ [⟨w.getD 1 [], w.getD 3 [], (addr (w.getD 5 [])).1, (portsT (w.getD 7 [])).1⟩]) := fun g => by
  unfold pHid
  rw [if_neg (by rintro ((q | q) | q); exact q hf; exact g (.inl q); exact g (.inr q))]
 (repeat' (first | (refine zDr [[0,1,2,3,4,5,6,7,8,9,10,11,12,13,14],[15],[16,17],[18]] ?_; refine zDn ?_) | refine zS ?_ | refine zD ?_ | refine po_both ?_ ?_ | refine pwt_both ?_ ?_ | refine pwt_fork ?_ | refine pwt_lin ?_ | (refine po_test rfl rfl rfl rfl zB ?_ ?_ <;> intro hb <;> first | exact zX | refine zDn ?_) | refine zq5 ?_ | refine zq6 ?_ | (refine zT ?_ ?_ <;> intro h <;> first | exact zX | refine zNq ?_)))
 ·rw [show pHid i.hids w = (4, i.hids) from by unfold pHid; rw [if_pos (by rcases h with h | h; exact .inl (.inr h); exact .inr h)]]
  exact ⟨_, _, _, rfl, ⟨c, rfl, rfl⟩, .inr (.inl rfl), zF, rfl, rfl⟩
 all_goals rw [hp (by assumption)]
 ·rw [if_pos h]
  exact ⟨_, _, _, rfl, ⟨c, rfl, rfl⟩, .inr (.inl rfl), zF, rfl, rfl⟩
 ·rename_i g1
  rw [if_neg g1, if_pos h]
  exact ⟨_, _, _, rfl, ⟨c, rfl, rfl⟩, .inr (.inl rfl), zF, rfl, rfl⟩
 ·rename_i g1 g2
  rw [if_neg g1, if_neg g2, if_pos (by omega)]
  exact ⟨_, _, _, rfl, ⟨c, rfl, rfl⟩, .inr (.inl rfl), zF, rfl, rfl⟩
 rename_i g1 g2
 rw [if_neg g1, if_neg g2, if_neg (by omega)]
 (refine po_step rfl rfl (op_append (b := 48) hT rfl rfl rfl rfl rfl rfl (.inl (Nat.zero_lt_succ _)) rfl rfl (by simp; omega) (fun cap' _ hcap => ⟨zLok, ?_⟩)); refine zDn ?_)
 refine zD ?_
 (refine pw_mv 6 8 hD rfl rfl rfl rfl rfl ?_; refine pw_norm rfl ?_)
 (repeat' (first | refine zS ?_ | refine zq5 ?_ | refine zq6 ?_ | (refine zT ?_ ?_ <;> intro h <;> first | exact zX | refine zNq ?_)))
 refine ⟨_, _, _, rfl, ⟨(c.1, c.2.1, c.2.2.1, c.2.2.2.1, c.2.2.2.2.1, cap'), rfl, rfl⟩, .inr (.inl rfl), ?_, rfl, rfl⟩
 simp only [List.map_append, List.length_append]
 exact zF

end
end Go.Proofs.YtkaobkjcjodffaaGreatDoor