/-
 Contracts of functions, walked over pure values.
-/
import Derived.Test.YtkaobkjcjodffaaGreatDoorHM12
import Derived.Test.YtkaobkjcjodffaaGreatDoorHK53B
import Derived.Test.YtkaobkjcjodffaaGreatDoorHK51
import Derived.Test.YtkaobkjcjodffaaGreatDoorHK38
import Derived.Test.YtkaobkjcjodffaaGreatDoorGPwApX
import Derived.Test.YtkaobkjcjodffaaGreatDoorHP3
set_option maxHeartbeats 20000000
set_option maxRecDepth 100000
namespace Go.Proofs.YtkaobkjcjodffaaGreatDoor
open Go Go.Pw
section
variable {Gl : Glob}
attribute [local irreducible] PW PWL OpP PCalls PWO PWT bothT
theorem c_spoil0 (l : List Int) (hl : Tp l) (j : Nat) (hj : j ≤ l.length) (i : TInt) (n : Nat) (hn : n < 90000) (hi : SpI n i) (h1 : nxV l j 14 ≠ 1) : Gen Gl 26 [eIntent i] l j fun r => ∃ t : TInt, SpI (n + 3) t ∧ r = eIntent t := by
 refine PCalls.of hT Tryz.func26 rfl 1 (Nat.le_refl _) fun B hD => ?_
 refine pw_norm rfl ?_
 (repeat' (first | refine zS ?_ | refine zq5 ?_ | refine zq6 ?_))
 (refine pl_op rfl (zCl [] e54 (c_copyInt i (hi.big (by omega))) (fun r s hq => ?_)); obtain ⟨c, rfl, rfl⟩ := hq; refine ⟨rfl, rfl, ?_⟩; (refine zNp ?_))
 (refine pl_op rfl (op_alloc hT rfl rfl ?_); (refine zNp ?_))
 (repeat (first | refine pl_pure hT rfl ?_ | (refine pl_op rfl (op_storeF hT rfl rfl rfl rfl rfl rfl rfl rfl (Nat.le_of_ble_eq_true rfl) ?_); (first | refine pl_norm rfl ?_ | refine pl_normE rfl ?_))))
 refine pl_nil ?_
 refine zNq ?_
 refine pw_less (st' := sst l j i (i.groups.map eDef).length (.arr 2 (i.groups.map eDef) c.1) .dead c) (env' := senv) zLe (by unfold sst; (exact zLes)) ?_
 obtain ⟨m, hm, hm14⟩ := nxV_lt (l := l) (i := j) (n := 14) (by decide)
 have hm : nxV l j 14 = (m : Int) := hm
 rw [hm] at h1
 match m, hm14, hm, h1 with
 | 0, _, hm, _ => exact spoil_0 l hl j hj i n hn hi c B j hD hm
 | 1, _, hm, h1 => exact absurd rfl h1
 | 2, _, hm, _ => exact spoil_2 l hl j hj i n hn hi c B j hD hm
 | 3, _, hm, _ => exact spoil_3 l hl j hj i n hn hi c B j hD hm
 | 4, _, hm, _ => exact spoil_4 l hl j hj i n hn hi c B j hD hm
 | 5, _, hm, _ => exact spoil_5 l hl j hj i n hn hi c B j hD hm
 | 6, _, hm, _ => exact spoil_6 l hl j hj i n hn hi c B j hD hm
 | 7, _, hm, _ => exact spoil_7 l hl j hj i n hn hi c B j hD hm
 | 8, _, hm, _ => exact spoil_8 l hl j hj i n hn hi c B j hD hm
 | 9, _, hm, _ => exact spoil_9 l hl j hj i n hn hi c B j hD hm
 | 10, _, hm, _ => exact spoil_10 l hl j hj i n hn hi c B j hD hm
 | 11, _, hm, _ => exact spoil_11 l hl j hj i n hn hi c B j hD hm
 | 12, _, hm, _ => exact spoil_12 l hl j hj i n hn hi c B j hD hm
 | 13, _, hm, _ => exact spoil_13 l hl j hj i n hn hi c B j hD hm
 | m + 14, h, _, _ => omega
def gR (l : List TDef) (m : Nat) : List PV := (l.map eDef).flatMap PV.cells ++ List.replicate m .any
theorem gR_len (l : List TDef) (m : Nat) : (gR l m).length = l.length * 2 + m := by
 unfold gR
 rw [List.length_append, List.length_replicate]
 congr 1
 induction l with
 | nil => rfl
 | cons d l ih => rw [List.map_cons, List.flatMap_cons, List.length_append, ih, List.length_cons, Nat.succ_mul, Nat.add_comm]; rfl
theorem gR_mem {l : List TDef} {m : Nat} {p : PV} (h : p ∈ gR l m) : (∃ s, p = .str s) ∨ (∃ xs, p = .sl xs) ∨ p = .any := by
 unfold gR at h
 rcases List.mem_append.1 h with h | h
 ·obtain ⟨x, hx, hp⟩ := List.mem_flatMap.1 h
  obtain ⟨d, _, rfl⟩ := List.mem_map.1 hx
  simp only [eDef, PV.cells, List.mem_cons, List.not_mem_nil, or_false] at hp
  rcases hp with rfl | rfl
  ·exact .inl ⟨_, rfl⟩
  ·exact .inr (.inl ⟨_, rfl⟩)
 ·exact .inr (.inr (List.mem_replicate.1 h).2)
theorem gR_map {f : PV → PV} (h1 : ∀ s, f (.str s) = .str s) (h2 : ∀ xs, f (.sl xs) = .sl xs) (h3 : f .any = .any) (l : List TDef) (m : Nat) : (gR l m).map f = gR l m := by
 refine (List.map_congr_left (g := id) fun p hp => ?_).trans (List.map_id _)
 rcases gR_mem hp with ⟨s, rfl⟩ | ⟨xs, rfl⟩ | rfl
 ·exact h1 s
 ·exact h2 xs
 ·exact h3
theorem gR_all {f : PV → Bool} (h1 : ∀ s, f (.str s) = true) (h2 : ∀ xs, f (.sl xs) = true) (h3 : f .any = true) (l : List TDef) (m : Nat) : (gR l m).all f = true := by
 refine List.all_eq_true.2 fun p hp => ?_
 rcases gR_mem hp with ⟨s, rfl⟩ | ⟨xs, rfl⟩ | rfl
 ·exact h1 s
 ·exact h2 xs
 ·exact h3
theorem gR_app {l : List TDef} {d : TDef} {n m c : Nat} (x y : PV) (hn : n = l.length + 1) : appB 2 n c (x :: y :: gR l m) [.str d.name, .sl (d.items.map eItem)] = x :: y :: gR (l ++ [d]) ((c - (n + 1)) * 2) := by
 subst hn
 have h1 : (l.length + 1) * 2 = l.length * 2 + 1 + 1 := by omega
 have h2 : ((l.map eDef).flatMap PV.cells).length = l.length * 2 := by
  have := gR_len l 0
  unfold gR at this
  rw [List.length_append, List.length_replicate] at this
  omega
 unfold appB gR
 rw [h1, List.take_succ_cons, List.take_succ_cons, List.take_left' h2, List.map_append, List.flatMap_append, List.cons_append, List.cons_append, List.cons_append, List.cons_append]
 rfl
theorem gR_app0 (c : Nat) (x y : PV) : appB 2 0 c [] [x, y] = x :: y :: gR [] ((c - 1) * 2) := rfl
def oB (d : TDef) (l : List TDef) (k c c0 : Nat) : PObj := match k with
 | 0 => .dead
 | k + 1 => .box (.str d.name :: .msl 7 1 0 (d.items.map eItem).length c0 :: gR (l.take k) ((c - (k + 1)) * 2))
def oI (d : TDef) (k c0 : Nat) : PObj := match k with
 | 0 => .dead
 | _ + 1 => .arr 7 (d.items.map eItem) c0
attribute [local irreducible] gR
theorem c_copyDefs1 (d : TDef) (l : List TDef) (hl : l.length ≤ 1000000) (hd : d.items.length ≤ 1000000) (hi : ∀ d ∈ l, d.items.length ≤ 1000000) : PCalls Tryz.prog Gl 107 [.sl ((d :: l).map eDef)] [] fun r s => ∃ c c0, (l.length + 1 ≤ c ∧ c ≤ maxLen) ∧ r = .msl 2 0 0 (l.length + 1) c ∧ s = [.box (.str d.name :: .msl 7 1 0 (d.items.map eItem).length c0 :: gR l ((c - (l.length + 1)) * 2)), .arr 7 (d.items.map eItem) c0] := by
 refine PCalls.of hT Tryz.func107 rfl 2 (Nat.zero_le _) fun B hD => ?_
 refine pw_norm rfl ?_
 (try refine zS ?_)
 refine pw_ghost 2 ?_
 refine pw_ghost 7 ?_
 refine zNq ?_
 refine pw_for hD (fun a : Nat × Nat × Nat => [(3, .msl 2 0 0 a.1 a.2.1), (4, .int .i64 a.1)]) (fun a => [oB d l a.1 a.2.1 a.2.2, oI d a.1 a.2.2]) (fun a => a.1 ≤ l.length + 1 ∧ (a.1 ≤ a.2.1 ∧ a.2.1 ≤ maxLen) ∧ (a.1 = 0 → a.2.1 = 0)) (fun a => l.length + 1 - a.1) (0, 0, 0) ⟨Nat.zero_le _, ⟨Nat.zero_le _, Nat.zero_le _⟩, fun _ => rfl⟩ 2 rfl (fun _ => rfl) zF (fun _ => rfl)
  (fun a => by
   obtain ⟨k, c, c0⟩ := a
   cases k with
   | zero => rfl
   | succ k =>
    refine Bool.and_eq_true_iff.2 ⟨rfl, ?_⟩
    simp only [oB, oI, List.all_cons, List.all_nil, PObj.refs, Bool.and_true]
    rw [gR_all (fun _ => rfl) (fun _ => rfl) rfl]
    rfl) zLe ?_
 rintro ⟨k, c, c0⟩ ⟨hk, hkc, hk0⟩
 dsimp only at hk hkc hk0 ⊢
 have hlen : ((d :: l).map eDef).length = l.length + 1 := by rw [List.length_map]; rfl
 cases k with
 | zero =>
  obtain rfl := hk0 rfl
  show PW _ _ _ _ _ [.dead, .dead] _
  refine zNq ?_
  (try refine zS ?_)
  refine zT ?_ ?_ <;> intro h <;> refine zNq ?_
  ·(try refine zS ?_)
   refine zDr [[0,1,2,3,4,5,7,8,9,10,11],[6,12],[13],[14,15],[16]] ?_
   refine zDn ?_
   (refine zDgo ?_)
   (refine po_val rfl rfl (v_index (p := eDef d) hT rfl rfl rfl rfl (by omega) (lit_at eDef (d :: l) 0 default (Nat.zero_lt_succ _)) rfl) ?_; refine zDn ?_)
   (refine zDgo ?_)
   (refine po_val rfl rfl (v_index (p := eDef d) hT rfl rfl rfl rfl (by omega) (lit_at eDef (d :: l) 0 default (Nat.zero_lt_succ _)) rfl) ?_; refine zDn ?_)
   (refine zDgo ?_)
   (refine po_step rfl rfl (op_litm hT rfl rfl rfl rfl rfl (by decide) rfl rfl rfl rfl ⟨zLok, ?_⟩); refine zDn ?_)
   (refine po_step rfl rfl (op_appendX (b := 56) hT rfl rfl rfl rfl (by simp) rfl (by first | rfl | (simp only [List.all_map]; exact List.all_eq_true.2 fun _ _ => rfl)) (by first | rfl | (simp only [List.all_map]; exact List.all_eq_true.2 fun _ _ => rfl)) (by simp only [List.length_map, List.length_nil]; omega) (fun c1 hcap => ⟨(by (repeat (first | exact True.intro | refine ⟨.inr rfl, ?_⟩ | refine ⟨.inl (by decide +kernel), ?_⟩))), ?_⟩)); (first | refine po_norm rfl ?_ | refine po_normE rfl ?_))
   (refine zDgo ?_)
   (refine po_step rfl rfl (op_litB hT rfl rfl rfl rfl (by decide) rfl rfl rfl ⟨zLok, ?_⟩); refine zDn ?_)
   (refine zDgo ?_)
   (refine po_step rfl rfl (op_appB1 (b := 40) (cs := []) hT rfl rfl rfl (Nat.le_refl _) (by simp) (fun h => (h rfl).elim) (by simp) rfl rfl rfl rfl (by omega) (Nat.zero_le _) fun c2 hc2 => ⟨zLok, ?_⟩); refine zDn ?_)
   refine zD ?_
   show PW _ _ _ _ _ _ _
   simp only [List.length_nil, Nat.zero_add, List.nil_append]
   refine pw_st (congrArg (fun g : List PV => ([.dead, .dead, .dead, .arr 7 (d.items.map eItem) c1, .box [.str d.name, .msl 7 3 0 (d.items.map eItem).length c1], .box g] : List PObj)) (gR_app0 c2 (.str d.name) (.msl 7 3 0 (d.items.map eItem).length c1))) ?_
   refine zNq ?_
   refine pw_mv 1 3 hD rfl rfl rfl rfl rfl ?_
   refine pw_mv 0 5 hD rfl rfl rfl rfl rfl ?_
   refine pw_st (congrArg (fun g : List PV => ([.box (.str d.name :: .msl 7 1 0 (d.items.map eItem).length c1 :: g), .arr 7 (d.items.map eItem) c1, .dead, .dead, .box [.str d.name, .msl 7 1 0 (d.items.map eItem).length c1], .dead] : List PObj)) ((congrArg (List.map (mvP 0 5)) (gR_map (f := mvP 1 3) (fun _ => rfl) (fun _ => rfl) rfl [] ((c2 - 1) * 2))).trans (gR_map (fun _ => rfl) (fun _ => rfl) rfl _ _))) ?_
   refine zNq ?_
   (try refine zS ?_)
   refine ⟨(1, c2, c1), ⟨by omega, hc2, fun h => by cases h⟩, by omega, ?_, ?_⟩
   ·(exact zLe)
   ·(exact zLes)
  ·exfalso
   have : (d :: l).length = l.length + 1 := rfl
   omega
 | succ k =>
  show PW _ _ _ _ _ [.box (.str d.name :: .msl 7 1 0 (d.items.map eItem).length c0 :: gR (l.take k) ((c - (k + 1)) * 2)), .arr 7 (d.items.map eItem) c0] _
  refine zNq ?_
  (try refine zS ?_)
  refine zT ?_ ?_ <;> intro h <;> refine zNq ?_
  ·have hlt : k < l.length := by
    have : (d :: l).length = l.length + 1 := rfl
    omega
   have hid := hi _ (getD_memD hlt)
   have e1 : l.take (k + 1) = l.take k ++ [l.getD k default] := by rw [List.take_succ_eq_append_getElem hlt, List.getD, List.getElem?_eq_getElem hlt]; rfl
   have hg := gR_len (l.take k) ((c - (k + 1)) * 2)
   rw [List.length_take, Nat.min_eq_left (by omega)] at hg
   (try refine zS ?_)
   refine zDr [[0,1,2,3,4,5,7,8,9,10,11],[6,12],[13],[14,15],[16]] ?_
   refine zDn ?_
   (refine zDgo ?_)
   (refine po_val rfl rfl (v_index (p := eDef (l.getD k default)) hT rfl rfl rfl rfl (by omega) (lit_at eDef (d :: l) (k + 1) default (Nat.succ_lt_succ hlt)) rfl) ?_; refine zDn ?_)
   (refine zDgo ?_)
   (refine po_val rfl rfl (v_index (p := eDef (l.getD k default)) hT rfl rfl rfl rfl (by omega) (lit_at eDef (d :: l) (k + 1) default (Nat.succ_lt_succ hlt)) rfl) ?_; refine zDn ?_)
   (refine zDgo ?_)
   (refine po_step rfl rfl (op_litm hT rfl rfl rfl rfl rfl (by decide) rfl rfl rfl rfl ⟨zLok, ?_⟩); refine zDn ?_)
   (refine po_step rfl rfl (op_appendF (b := 56) hT rfl rfl rfl rfl (by simp) rfl (by first | rfl | (simp only [List.all_map]; exact List.all_eq_true.2 fun _ _ => rfl)) (by first | rfl | (simp only [List.all_map]; exact List.all_eq_true.2 fun _ _ => rfl)) (by simp only [List.length_map, List.length_nil]; omega) ⟨(by (repeat (first | exact True.intro | refine ⟨.inr rfl, ?_⟩ | refine ⟨.inl (by decide +kernel), ?_⟩))), ?_⟩); (first | refine po_norm rfl ?_ | refine po_normE rfl ?_))
   (refine zDgo ?_)
   (refine po_step rfl rfl (op_litB hT rfl rfl rfl rfl (by decide) rfl rfl rfl ⟨zLok, ?_⟩); refine zDn ?_)
   (refine zDgo ?_)
   (refine po_step rfl rfl (op_appB1 (b := 40) hT rfl rfl rfl hkc.1 (Nat.zero_lt_succ _) (fun _ => ⟨rfl, by simp only [List.length_cons, hg]; omega⟩) (by simp only [List.length_cons, hg]; omega) rfl rfl rfl rfl (by omega) hkc.2 fun c2 hc2 => ⟨zLok, ?_⟩); refine zDn ?_)
   refine zD ?_
   show PW _ _ _ _ _ _ _
   simp only [List.nil_append]
   refine pw_st (congrArg (fun g : List PV => ([.dead, .arr 7 (d.items.map eItem) c0, .dead, .dead, .box [.str (l.getD k default).name, .sl ((l.getD k default).items.map eItem)], .box g] : List PObj)) ((gR_app (l := l.take k) (d := l.getD k default) (n := k + 1) (c := c2) (.str d.name) (.msl 7 1 0 (d.items.map eItem).length c0) (by rw [List.length_take]; omega)).trans (congrArg (fun x => PV.str d.name :: .msl 7 1 0 (d.items.map eItem).length c0 :: gR x ((c2 - (k + 2)) * 2)) e1.symm))) ?_
   refine zNq ?_
   refine pw_mv 0 5 hD rfl rfl rfl rfl rfl ?_
   refine pw_st (congrArg (fun g : List PV => ([.box (.str d.name :: .msl 7 1 0 (d.items.map eItem).length c0 :: g), .arr 7 (d.items.map eItem) c0, .dead, .dead, .box [.str (l.getD k default).name, .sl ((l.getD k default).items.map eItem)], .dead] : List PObj)) (gR_map (f := mvP 0 5) (fun _ => rfl) (fun _ => rfl) rfl _ _)) ?_
   refine zNq ?_
   (try refine zS ?_)
   refine ⟨(k + 2, c2, c0), ⟨by omega, hc2, fun h => by cases h⟩, by omega, ?_, ?_⟩
   ·(exact zLe)
   ·(exact zLes)
  ·obtain rfl : k = l.length := by
    have : (d :: l).length = l.length + 1 := rfl
    omega
   rw [List.take_length]
   (try refine zS ?_)
   refine ⟨_, _, _, rfl, ⟨c, c0, hkc, rfl, rfl⟩, .inr (.inl rfl), zF, rfl, ?_⟩
   simp only [List.all_cons, List.all_nil, PObj.refs, Bool.and_true]
   rw [gR_all (fun _ => rfl) (fun _ => rfl) rfl]
   rfl
end
section
variable {Gl : Glob}
attribute [local irreducible] PW PWL OpP PCalls PWO PWT bothT gR
def nG (d : TDef) (l : List TDef) (c c0 : Nat) : PObj := .box (.str d.name :: .msl 7 8 0 (d.items.map eItem).length c0 :: gR l ((c - (l.length + 1)) * 2))
theorem nG_inert (d : TDef) (l : List TDef) (c c0 : Nat) : Inert (nG d l c c0) (.arr 7 (d.items.map eItem) c0) := by
 refine ⟨congrArg (fun g : List PV => PObj.box (.str d.name :: .msl 7 8 0 (d.items.map eItem).length c0 :: g)) (gR_map (f := mvP 10 13) (fun _ => rfl) (fun _ => rfl) rfl _ _), rfl, fun f h => ⟨?_, rfl⟩⟩
 have hg := gR_all (f := PV.refs f 5) (fun _ => rfl) (fun _ => rfl) rfl l ((c - (l.length + 1)) * 2)
 show (true && (f 8 && (gR l ((c - (l.length + 1)) * 2)).all (PV.refs f 5))) = true
 rw [hg, h]
 rfl
theorem g2_refs {F : Nat → Bool} {s : Str} {xs : List PV} {n c0 m : Nat} {l : List TDef} (h : F 1 = true) : ([.box (.str s :: .msl 7 1 0 n c0 :: gR l m), .arr 7 xs c0] : List PObj).all (PObj.refs F 5) = true := by
 have hg := gR_all (f := PV.refs F 5) (fun _ => rfl) (fun _ => rfl) rfl l m
 show ((true && (F 1 && (gR l m).all (PV.refs F 5))) && (true && true)) = true
 rw [hg, h]
 rfl
theorem gR_mv (i L : Nat) (l : List TDef) (m : Nat) : (gR l m).map (mvP i L) = gR l m := gR_map (fun _ => rfl) (fun _ => rfl) rfl l m
theorem cQ_nest (i : TInt) (d : TDef) (l : List TDef) (c1 c0 : Nat) (hc : l.length + 1 ≤ c1 ∧ c1 ≤ maxLen) : ∀ e env st, cQ i (l.length + 1) (nG d l c1 c0) (.arr 7 (d.items.map eItem) c0) c1 e env st → retF tys Tryz.f54.results.toList 17 (fun r s => ∃ (c : KCaps) (c0 : Nat), (l.length + 1 ≤ c.1 ∧ c.1 ≤ maxLen) ∧ r = mInt i (l.length + 1) c ∧ s = aInt i (nG d l c.1 c0) (.arr 7 (d.items.map eItem) c0) c) e env st :=
 retF_mono fun _ _ ⟨c, h, h1, h2⟩ => ⟨c, c0, by rw [h]; exact hc, h1, by rw [h]; exact h2⟩
theorem c_copyInt1 (i : TInt) (hb : IBig i) (d : TDef) (l : List TDef) (hgl : i.groups = d :: l) : PCalls Tryz.prog Gl 54 [eIntent i] [] fun r s => ∃ (c : KCaps) (c0 : Nat), (l.length + 1 ≤ c.1 ∧ c.1 ≤ maxLen) ∧ r = mInt i (l.length + 1) c ∧ s = aInt i (nG d l c.1 c0) (.arr 7 (d.items.map eItem) c0) c := by
 refine PCalls.of hT Tryz.func54 rfl 17 (Nat.zero_le _) fun B hD => ?_
 have hg := hb.groups
 have hs := hb.services
 have hgi := hb.gitems
 have hsi := hb.sitems
 rw [hgl] at hg hgi
 have hg : l.length + 1 < 1000000 := hg
 have hd := hgi d (List.mem_cons_self ..)
 have hgi := fun x hx => hgi x (List.mem_cons_of_mem d hx)
 unfold eIntent
 rw [hgl]
 refine pw_norm rfl ?_
 (try refine zS ?_)
 (refine pw_drawT (.fork [(0, true), (1, true), (3, true), (4, true)] 2 (.fork [] 5 (.lin [(6, true), (7, false), (8, false)]) 7 (.lin [(5, false), (6, true), (8, false)])) 7 (.lin [(2, false), (5, false), (6, true), (8, false)])) hmix (by decide +kernel) ?_; refine pwt_fork ?_)
 repeat' (first | refine zD ?_ | refine po_both ?_ ?_ | refine pwt_both ?_ ?_ | refine pwt_fork ?_ | refine pwt_lin ?_)
 all_goals
  (refine po_step rfl rfl (zCl [] e107 (c_copyDefs1 d l (by omega) (by omega) (fun d hd => by have := hgi d hd; omega)) (fun r s hq => ?_)); obtain ⟨c1, c0, hc1, rfl, rfl⟩ := hq; refine ⟨rfl, g2_refs rfl, zLok, ?_⟩; refine zDn ?_)
 all_goals
  repeat' (first | refine zD ?_ | refine po_both ?_ ?_ | refine pwt_both ?_ ?_ | refine pwt_fork ?_ | refine pwt_lin ?_)
 all_goals
  (refine po_step rfl rfl (zCl [] e107 (c_copyDefs i.services (by omega) (fun d hd => by have := hsi d hd; omega)) (fun r s hq => ?_)); obtain ⟨c2, rfl, rfl⟩ := hq; refine ⟨rfl, rfl, zLok, ?_⟩; refine zDn ?_)
 all_goals
  repeat' (first | refine zD ?_ | refine po_both ?_ ?_ | refine pwt_both ?_ ?_ | refine pwt_fork ?_ | refine pwt_lin ?_)
 ·show PW _ _ _ _ _ _ _
  refine pw_st (congrArg (fun g : List PV => ([.box [.sl ((d :: l).map eDef), .sl (i.services.map eDef), .sl (i.windows.map eWin), .sl (i.stms.map eStm), .sl (i.pubs.map ePub), .sl (i.hids.map eHid)], zI, .box (.str d.name :: .msl 7 3 0 (d.items.map eItem).length c0 :: g), .arr 7 (d.items.map eItem) c0, .arr 2 (i.services.map eDef) c2, .box [.msl 2 2 0 (l.length + 1) c1, .msl 2 4 0 (i.services.map eDef).length c2, .nilsl, .nilsl, .nilsl, .nilsl]] : List PObj)) (gR_map (fun _ => rfl) (fun _ => rfl) rfl l ((c1 - (l.length + 1)) * 2))) ?_
  iterate 5 refine pw_ghost 2 ?_
  refine zNq ?_
  simp only [List.cons_append, List.nil_append]
  refine pw_mv 6 5 hD rfl rfl rfl rfl rfl ?_
  simp only [List.map_cons, List.map_nil, List.set_cons_zero, List.set_cons_succ, mvO, gR_mv]
  refine pw_mv 7 2 hD rfl rfl rfl rfl rfl ?_
  simp only [List.map_cons, List.map_nil, List.set_cons_zero, List.set_cons_succ, mvO, gR_mv]
  refine pw_mv 8 3 hD rfl rfl rfl rfl rfl ?_
  simp only [List.map_cons, List.map_nil, List.set_cons_zero, List.set_cons_succ, mvO, gR_mv]
  refine pw_mv 9 4 hD rfl rfl rfl rfl rfl ?_
  simp only [List.map_cons, List.map_nil, List.set_cons_zero, List.set_cons_succ, mvO, gR_mv]
  refine pw_less (st' := cst i (l.length + 1) (nG d l c1 c0) (.arr 7 (d.items.map eItem) c0) [] c1 c2 0) (env' := cenv) zLe ?_ ((copy_tail i hb hD _ _ _ (nG_inert d l c1 c0) c1 c2).mono (cQ_nest i d l c1 c0 hc1))
  unfold cst eIntent
  rw [hgl]
  exact ⟨.inl rfl, .inl rfl, .inl rfl, .inl rfl, .inl rfl, .inl rfl, .inr (.inr ⟨_, _, rfl, rfl, .inr (.inl rfl), .inr (.inl rfl), .inr (.inr (.inr (.inl ⟨rfl, _, _, rfl⟩))), .inr (.inl rfl), .inr (.inl rfl), .inr (.inl rfl), trivial⟩), .inl rfl, .inl rfl, .inl rfl, .inl rfl, trivial⟩
 ·show PW _ _ _ _ _ _ _
  refine pw_st (congrArg (fun g : List PV => ([.box [.sl ((d :: l).map eDef), .sl (i.services.map eDef), .sl (i.windows.map eWin), .sl (i.stms.map eStm), .sl (i.pubs.map ePub), .sl (i.hids.map eHid)], zI, .box (.str d.name :: .msl 7 3 0 (d.items.map eItem).length c0 :: g), .arr 7 (d.items.map eItem) c0, .box [.msl 2 2 0 (l.length + 1) c1, .msl 2 5 0 (i.services.map eDef).length c2, .nilsl, .nilsl, .nilsl, .nilsl], .arr 2 (i.services.map eDef) c2] : List PObj)) (gR_map (fun _ => rfl) (fun _ => rfl) rfl l ((c1 - (l.length + 1)) * 2))) ?_
  iterate 5 refine pw_ghost 2 ?_
  refine zNq ?_
  simp only [List.cons_append, List.nil_append]
  refine pw_mv 6 4 hD rfl rfl rfl rfl rfl ?_
  simp only [List.map_cons, List.map_nil, List.set_cons_zero, List.set_cons_succ, mvO, gR_mv]
  refine pw_mv 7 2 hD rfl rfl rfl rfl rfl ?_
  simp only [List.map_cons, List.map_nil, List.set_cons_zero, List.set_cons_succ, mvO, gR_mv]
  refine pw_mv 8 3 hD rfl rfl rfl rfl rfl ?_
  simp only [List.map_cons, List.map_nil, List.set_cons_zero, List.set_cons_succ, mvO, gR_mv]
  refine pw_mv 9 5 hD rfl rfl rfl rfl rfl ?_
  simp only [List.map_cons, List.map_nil, List.set_cons_zero, List.set_cons_succ, mvO, gR_mv]
  refine pw_less (st' := cst i (l.length + 1) (nG d l c1 c0) (.arr 7 (d.items.map eItem) c0) [] c1 c2 0) (env' := cenv) zLe ?_ ((copy_tail i hb hD _ _ _ (nG_inert d l c1 c0) c1 c2).mono (cQ_nest i d l c1 c0 hc1))
  unfold cst eIntent
  rw [hgl]
  exact ⟨.inl rfl, .inl rfl, .inl rfl, .inl rfl, .inl rfl, .inl rfl, .inr (.inr ⟨_, _, rfl, rfl, .inr (.inl rfl), .inr (.inl rfl), .inr (.inr (.inr (.inl ⟨rfl, _, _, rfl⟩))), .inr (.inl rfl), .inr (.inl rfl), .inr (.inl rfl), trivial⟩), .inl rfl, .inl rfl, .inl rfl, .inl rfl, trivial⟩
 ·show PW _ _ _ _ _ _ _
  refine pw_st (congrArg (fun g : List PV => ([.box [.sl ((d :: l).map eDef), .sl (i.services.map eDef), .sl (i.windows.map eWin), .sl (i.stms.map eStm), .sl (i.pubs.map ePub), .sl (i.hids.map eHid)], zI, .box [.msl 2 3 0 (l.length + 1) c1, .msl 2 5 0 (i.services.map eDef).length c2, .nilsl, .nilsl, .nilsl, .nilsl], .box (.str d.name :: .msl 7 4 0 (d.items.map eItem).length c0 :: g), .arr 7 (d.items.map eItem) c0, .arr 2 (i.services.map eDef) c2] : List PObj)) (gR_map (fun _ => rfl) (fun _ => rfl) rfl l ((c1 - (l.length + 1)) * 2))) ?_
  iterate 5 refine pw_ghost 2 ?_
  refine zNq ?_
  simp only [List.cons_append, List.nil_append]
  refine pw_mv 6 2 hD rfl rfl rfl rfl rfl ?_
  simp only [List.map_cons, List.map_nil, List.set_cons_zero, List.set_cons_succ, mvO, gR_mv]
  refine pw_mv 7 3 hD rfl rfl rfl rfl rfl ?_
  simp only [List.map_cons, List.map_nil, List.set_cons_zero, List.set_cons_succ, mvO, gR_mv]
  refine pw_mv 8 4 hD rfl rfl rfl rfl rfl ?_
  simp only [List.map_cons, List.map_nil, List.set_cons_zero, List.set_cons_succ, mvO, gR_mv]
  refine pw_mv 9 5 hD rfl rfl rfl rfl rfl ?_
  simp only [List.map_cons, List.map_nil, List.set_cons_zero, List.set_cons_succ, mvO, gR_mv]
  refine pw_less (st' := cst i (l.length + 1) (nG d l c1 c0) (.arr 7 (d.items.map eItem) c0) [] c1 c2 0) (env' := cenv) zLe ?_ ((copy_tail i hb hD _ _ _ (nG_inert d l c1 c0) c1 c2).mono (cQ_nest i d l c1 c0 hc1))
  unfold cst eIntent
  rw [hgl]
  exact ⟨.inl rfl, .inl rfl, .inl rfl, .inl rfl, .inl rfl, .inl rfl, .inr (.inr ⟨_, _, rfl, rfl, .inr (.inl rfl), .inr (.inl rfl), .inr (.inr (.inr (.inl ⟨rfl, _, _, rfl⟩))), .inr (.inl rfl), .inr (.inl rfl), .inr (.inl rfl), trivial⟩), .inl rfl, .inl rfl, .inl rfl, .inl rfl, trivial⟩
theorem pw_unnest {P : Program} {B : Base} {env : List PV} {st : List PObj} {Q : Post} {co : Code} (i b : Nat) {nm : Str} {its : List TItem} {l : List TDef} {m c c0 k' : Nat} (hb : st[b]? = some (.box (.str nm :: .msl 7 i 0 m c0 :: gR l ((c - (l.length + 1)) * 2)))) (hst : st[i]? = some (.arr k' (its.map eItem) c0)) (hm : m = (its.map eItem).length) (hib : b ≠ i) (hc : l.length + 1 ≤ c) (hmx : c ≤ maxLen)
  (h : PW P Gl B co (env.map (wipe fun j => !(j == i))) (((killF (fun j => j == i) 0 st).set b (.box (.str nm :: .sl (its.map eItem) :: gR l ((c - (l.length + 1)) * 2)))).set b (.arr 2 ((⟨nm, its⟩ :: l).map eDef) c)) Q) : PW P Gl B co env st Q := by
 refine pw_frzB i b (cs1 := [.str nm]) (cs2 := gR l ((c - (l.length + 1)) * 2)) hb hst hm hib ?_
 refine pw_inv (fun _ _ _ hv => ?_) h
 have hl := gR_len l ((c - (l.length + 1)) * 2)
 have hbl : b < st.length := (List.getElem?_eq_some_iff.1 hb).1
 refine hv.boxArrK (cs := .str nm :: .sl (its.map eItem) :: gR l ((c - (l.length + 1)) * 2)) (rest := List.replicate ((c - (l.length + 1)) * 2) .any) (List.getElem?_set_self ((killF_spec _ st st 0).len ▸ hbl)) ?_ ?_ ?_ ?_ ?_ hmx
 ·unfold gR
  rfl
 ·rw [List.length_cons, List.length_cons, hl]; omega
 ·intro x hx
  obtain ⟨d, _, rfl⟩ := List.mem_map.1 hx
  rfl
 ·intro x hx
  obtain ⟨d, _, rfl⟩ := List.mem_map.1 hx
  rfl
 ·rw [List.length_map]; exact hc
def nst (l : List Int) (j : Nat) (i : TInt) (d : TDef) (ds : List TDef) (its : List TItem) (c0 : Nat) (c : KCaps) : List PObj := sst l j i (ds.length + 1) (.box (.str d.name :: .msl 7 11 0 (its.map eItem).length c0 :: gR ds ((c.1 - (ds.length + 1)) * 2))) (.arr 7 (its.map eItem) c0) c
def spL11 : List Str := [[103, 49], [108, 97, 110], [110, 111, 119, 104, 101, 114, 101], []]
theorem spoil_1 (l : List Int) (hl : Tp l) (j : Nat) (hj : j ≤ l.length) (i : TInt) (n : Nat) (_hn : n < 90000) (hi : SpI n i) (d : TDef) (ds : List TDef) (hg : i.groups = d :: ds) (c : KCaps) (c0 : Nat) (hc : ds.length + 1 ≤ c.1 ∧ c.1 ≤ maxLen) {B : Base} (j0 : Nat) (_hD : ∀ k, B.D k = dOf [tape l j0] k) (hk : nxV l j 14 = 1) :
  PW Tryz.prog Gl B (tlC 2 (codeOf Tryz.f26)) senv (nst l j i d ds d.items c0 c) (sQ l n) := by
 have hg1 := hi.groups
 rw [hg] at hg1
 have hg1 : ds.length + 1 ≤ n := hg1
 have hcz : c.1 ≠ 0 := by omega
 have hdm : d ∈ i.groups := by rw [hg]; exact List.mem_cons_self ..
 have hsame : SpI (n + 3) { i with groups := ⟨d.name, d.items⟩ :: ds } := by
  have ht : ({ i with groups := d :: ds } : TInt) = i := by rw [← hg]
  exact ht ▸ hi.mono (Nat.le_add_right n 3)
 have hset : ∀ a : TItem, SpI (n + 3) { i with groups := ⟨d.name, d.items.set 0 ⟨a.kind, a.name, pfx0, 0, rng0⟩⟩ :: ds } := fun a => by
  have := hi.setG 0 (d := ⟨d.name, d.items.set 0 ⟨a.kind, a.name, pfx0, 0, rng0⟩⟩) ⟨by have := (hi.gitems d hdm).1; rw [List.length_set]; omega, mem_set (hi.gitems d hdm).2 ⟨⟨Int.le_refl 0, (by decide : (0 : Int) < 4294967296)⟩, Int.le_refl 0⟩⟩
  rw [hg] at this
  exact this
 unfold nst sst senv
 refine pw_code rfl ?_
 refine zNq ?_
 (repeat' (first | refine zS ?_ | refine zq5 ?_ | refine zq6 ?_))
 (refine pl_op rfl (zCl [0] e17 (c13d l hl j hj 14 (by decide)) (fun r s hq => ?_)); obtain ⟨rfl, rfl⟩ := hq; refine ⟨rfl, rfl, ?_⟩)
 refine pl_st (st' := nst l (nxI l j 14) i d ds d.items c0 c) rfl ?_
 have hj1 := nxI_le hj 14
 rw [hk]
 generalize nxI l j 14 = j1 at hj1 ⊢
 clear hk
 unfold nst sst
 (refine zNp ?_)
 (repeat' (first | refine zS ?_ | refine zq5 ?_ | refine zq6 ?_))
 refine pl_split 44 rfl (fun h1 => ?_) (fun h1 => ?_)
 ·(repeat' (first | refine zS ?_ | refine zq5 ?_ | refine zq6 ?_))
  (refine pl_on rfl rfl (op_of (v_indexK 0 hT rfl rfl rfl rfl (by decide) (by decide) (Nat.zero_lt_succ _) hcz) ?_); (refine zNp ?_))
  (repeat' (first | refine zS ?_ | refine zq5 ?_ | refine zq6 ?_))
  refine zT ?_ ?_ <;> intro h2 <;> refine zNq ?_
  ·refine pw_room 11 rfl fun hroom => ?_
   have hlm : (d.items.map eItem).length = d.items.length := List.length_map ..
   have h0 : 0 < d.items.length := by omega
   have hc0 : c0 ≠ 0 := by omega
   have hx0 : (d.items.map eItem)[0]? = some (eItem (d.items.getD 0 default)) := by rw [List.getElem?_map, List.getD, List.getElem?_eq_getElem h0]; rfl
   (repeat' (first | refine zS ?_ | refine zq5 ?_ | refine zq6 ?_))
   refine zDr [[0,1,2,3,4,5,8,9],[6],[7],[10],[11,12,13,14],[15]] ?_
   refine zDn ?_
   refine zD ?_
   (refine po_val rfl rfl (v_indexK 0 hT rfl rfl rfl rfl (by decide) (by decide) (Nat.zero_lt_succ _) hcz) ?_; refine zDn ?_)
   refine zD ?_
   (refine po_step rfl rfl (zCl [0] e17 (c13n l hl j1 hj1 5 (by decide) (by decide)) (fun r s hq => ?_)); obtain ⟨j2, ⟨m1, hm1, rfl⟩, hj2, rfl⟩ := hq; refine ⟨rfl, rfl, zLok, ?_⟩; refine zDn ?_)
   refine zD ?_
   (refine po_step rfl rfl (zCl [0] e17 (c13n l hl j2 hj2 4 (by decide) (by decide)) (fun r s hq => ?_)); obtain ⟨j3, ⟨m2, hm2, rfl⟩, hj3, rfl⟩ := hq; refine ⟨rfl, rfl, zLok, ?_⟩; refine zDn ?_)
   (refine po_val rfl rfl (v_index (p := .str (spL11.getD m2 [])) hT rfl rfl rfl rfl (by omega) (lit_at .str spL11 m2 [] hm2) rfl) ?_; refine zDn ?_)
   refine zD ?_
   (refine po_val rfl rfl (v_indexm hT rfl rfl rfl rfl rfl (by decide) (by omega) (hc0)) ?_; refine zDn ?_)
   (refine po_step rfl rfl (op_storeE' (x0 := eItem (d.items.getD 0 default)) (x1 := eItem ⟨1 + (m1 : Int), spL11.getD m2 [], pfx0, 0, rng0⟩) (xs' := (d.items.set 0 ⟨1 + (m1 : Int), spL11.getD m2 [], pfx0, 0, rng0⟩).map eItem) hT rfl rfl rfl rfl rfl (hc0) (hx0) rfl rfl rfl rfl (Nat.le_of_ble_eq_true rfl) rfl (by rw [List.map_set] <;> rfl) ⟨zLok, ?_⟩); refine zDn ?_)
   refine zD ?_
   show PW _ _ _ _ _ _ _
   refine pw_unnest 11 10 (nm := d.name) (its := d.items.set 0 ⟨1 + (m1 : Int), spL11.getD m2 [], pfx0, 0, rng0⟩) (l := ds) (c := c.1) (c0 := c0) (k' := 7) rfl rfl (by rw [List.length_map, List.length_map, List.length_set]) (by decide) hc.1 hc.2 ?_
   refine zNq ?_
   (repeat' (first | refine zS ?_ | refine zq5 ?_ | refine zq6 ?_))
   exact ⟨_, eIntent { i with groups := ⟨d.name, d.items.set 0 ⟨1 + (m1 : Int), spL11.getD m2 [], pfx0, 0, rng0⟩⟩ :: ds }, _, rfl, ⟨j3, ⟨_, hset ⟨1 + (m1 : Int), spL11.getD m2 [], pfx0, 0, rng0⟩, rfl⟩, hj3, rfl⟩, by (refine .inr (.inr (.inr (.inr (.inl ⟨_, _, rfl, rfl, ?_⟩)))); (repeat (first | exact True.intro | refine ⟨.inr (.inl rfl), ?_⟩ | refine ⟨.inr (.inr (.inl ⟨rfl, rfl⟩)), ?_⟩ | refine ⟨.inr (.inr (.inr (.inl ⟨_, _, _, _, _, _, rfl, rfl, rfl, rfl, rfl⟩))), ?_⟩ | refine ⟨.inr (.inr (.inr (.inl ⟨_, _, _, _, _, _, rfl, rfl, rfl, (by simp only [List.length_map, List.length_cons]), rfl⟩))), ?_⟩))), ⟨.inr (.inl rfl), trivial⟩, rfl, rfl⟩
  ·refine pw_unnest 11 10 (nm := d.name) (its := d.items) (l := ds) (c := c.1) (c0 := c0) (k' := 7) rfl rfl rfl (by decide) hc.1 hc.2 ?_
   refine zNq ?_
   (repeat' (first | refine zS ?_ | refine zq5 ?_ | refine zq6 ?_))
   exact ⟨_, eIntent { i with groups := ⟨d.name, d.items⟩ :: ds }, _, rfl, ⟨j1, ⟨_, hsame, rfl⟩, hj1, rfl⟩, by (refine .inr (.inr (.inr (.inr (.inl ⟨_, _, rfl, rfl, ?_⟩)))); (repeat (first | exact True.intro | refine ⟨.inr (.inl rfl), ?_⟩ | refine ⟨.inr (.inr (.inl ⟨rfl, rfl⟩)), ?_⟩ | refine ⟨.inr (.inr (.inr (.inl ⟨_, _, _, _, _, _, rfl, rfl, rfl, rfl, rfl⟩))), ?_⟩ | refine ⟨.inr (.inr (.inr (.inl ⟨_, _, _, _, _, _, rfl, rfl, rfl, (by simp only [List.length_map, List.length_cons]), rfl⟩))), ?_⟩))), ⟨.inr (.inl rfl), trivial⟩, rfl, rfl⟩
 ·exfalso
  have := of_decide_eq_false h1
  omega
theorem spoil_1n (l : List Int) (hl : Tp l) (j : Nat) (hj : j ≤ l.length) (i : TInt) (n : Nat) (_hn : n < 90000) (hi : SpI n i) (hg : i.groups = []) (c : KCaps) {B : Base} (j0 : Nat) (_hD : ∀ k, B.D k = dOf [tape l j0] k) (hk : nxV l j 14 = 1) :
  PW Tryz.prog Gl B (tlC 2 (codeOf Tryz.f26)) senv (sst l j i (i.groups.map eDef).length (.arr 2 (i.groups.map eDef) c.1) .dead c) (sQ l n) := by
 unfold sst senv
 refine pw_code rfl ?_
 refine zNq ?_
 (repeat' (first | refine zS ?_ | refine zq5 ?_ | refine zq6 ?_))
 (refine pl_op rfl (zCl [0] e17 (c13d l hl j hj 14 (by decide)) (fun r s hq => ?_)); obtain ⟨rfl, rfl⟩ := hq; refine ⟨rfl, rfl, ?_⟩; (refine zNp ?_))
 have hj1 := nxI_le hj 14
 have hl0 : i.groups.length = 0 := by rw [hg]; rfl
 rw [hk]
 generalize nxI l j 14 = j1 at hj1 ⊢
 clear hk
 (repeat' (first | refine zS ?_ | refine zq5 ?_ | refine zq6 ?_))
 refine pl_split 44 rfl (fun h1 => ?_) (fun h1 => ?_)
 ·exfalso
  have := of_decide_eq_true h1
  omega
 ·(repeat' (first | refine zS ?_ | refine zq5 ?_ | refine zq6 ?_))
  exact ⟨_, eIntent i, _, rfl, ⟨j1, ⟨i, hi.mono (Nat.le_add_right n 3), rfl⟩, hj1, rfl⟩, by (refine .inr (.inr (.inr (.inr (.inl ⟨_, _, rfl, rfl, ?_⟩)))); (repeat (first | exact True.intro | refine ⟨.inr (.inl rfl), ?_⟩ | refine ⟨.inr (.inr (.inl ⟨rfl, rfl⟩)), ?_⟩ | refine ⟨.inr (.inr (.inr (.inl ⟨_, _, _, _, _, _, rfl, rfl, rfl, rfl, rfl⟩))), ?_⟩ | refine ⟨.inr (.inr (.inr (.inl ⟨_, _, _, _, _, _, rfl, rfl, rfl, (by simp only [List.length_map, List.length_set, List.length_append, List.length_cons, List.length_nil]), rfl⟩))), ?_⟩))), ⟨.inr (.inl rfl), trivial⟩, rfl, rfl⟩
theorem c_spoil1n (l : List Int) (hl : Tp l) (j : Nat) (hj : j ≤ l.length) (i : TInt) (n : Nat) (hn : n < 90000) (hi : SpI n i) (hg : i.groups = []) (h1 : nxV l j 14 = 1) : Gen Gl 26 [eIntent i] l j fun r => ∃ t : TInt, SpI (n + 3) t ∧ r = eIntent t := by
 refine PCalls.of hT Tryz.func26 rfl 1 (Nat.le_refl _) fun B hD => ?_
 refine pw_norm rfl ?_
 (repeat' (first | refine zS ?_ | refine zq5 ?_ | refine zq6 ?_))
 (refine pl_op rfl (zCl [] e54 (c_copyInt i (hi.big (by omega))) (fun r s hq => ?_)); obtain ⟨c, rfl, rfl⟩ := hq; refine ⟨rfl, rfl, ?_⟩; (refine zNp ?_))
 (refine pl_op rfl (op_alloc hT rfl rfl ?_); (refine zNp ?_))
 (repeat (first | refine pl_pure hT rfl ?_ | (refine pl_op rfl (op_storeF hT rfl rfl rfl rfl rfl rfl rfl rfl (Nat.le_of_ble_eq_true rfl) ?_); (first | refine pl_norm rfl ?_ | refine pl_normE rfl ?_))))
 refine pl_nil ?_
 refine zNq ?_
 exact pw_less (st' := sst l j i (i.groups.map eDef).length (.arr 2 (i.groups.map eDef) c.1) .dead c) (env' := senv) zLe (by unfold sst; (exact zLes)) (spoil_1n l hl j hj i n hn hi hg c j hD h1)
theorem c_spoil1 (l : List Int) (hl : Tp l) (j : Nat) (hj : j ≤ l.length) (i : TInt) (n : Nat) (hn : n < 90000) (hi : SpI n i) (d : TDef) (ds : List TDef) (hg : i.groups = d :: ds) (h1 : nxV l j 14 = 1) : Gen Gl 26 [eIntent i] l j fun r => ∃ t : TInt, SpI (n + 3) t ∧ r = eIntent t := by
 refine PCalls.of hT Tryz.func26 rfl 1 (Nat.le_refl _) fun B hD => ?_
 refine pw_norm rfl ?_
 (repeat' (first | refine zS ?_ | refine zq5 ?_ | refine zq6 ?_))
 (refine pl_op rfl (zCl [] e54 (c_copyInt1 i (hi.big (by omega)) d ds hg) (fun r s hq => ?_)); obtain ⟨c, c0, hc, rfl, rfl⟩ := hq; refine ⟨rfl, (by
  have h7 := (nG_inert d ds c.1 c0).refs (fun _ => true) rfl
  simp only [aInt, List.all_cons, List.all_nil, h7.1, h7.2]
  rfl), ?_⟩)
 refine pl_st (congrArg (fun g : List PV => ([tape l j, .box (eIntent i).cells, zI, .dead, .dead, .dead, .dead, .dead, .dead, .dead, .box (.str d.name :: .msl 7 11 0 (d.items.map eItem).length c0 :: g), .arr 7 (d.items.map eItem) c0, .arr 2 (i.services.map eDef) c.2.1, .arr 2 (i.windows.map eWin) c.2.2.1, .dead, .arr 10 (i.stms.map eStm) c.2.2.2.1, .dead, .arr 6 (i.pubs.map ePub) c.2.2.2.2.1, .dead, .arr 5 (i.hids.map eHid) c.2.2.2.2.2] : List PObj)) (gR_map (fun _ => rfl) (fun _ => rfl) rfl ds ((c.1 - (ds.length + 1)) * 2))) ?_
 (refine zNp ?_)
 (refine pl_op rfl (op_alloc hT rfl rfl ?_); (refine zNp ?_))
 (repeat (first | refine pl_pure hT rfl ?_ | (refine pl_op rfl (op_storeF hT rfl rfl rfl rfl rfl rfl rfl rfl (Nat.le_of_ble_eq_true rfl) ?_); (first | refine pl_norm rfl ?_ | refine pl_normE rfl ?_))))
 refine pl_nil ?_
 refine zNq ?_
 exact pw_less (st' := nst l j i d ds d.items c0 c) (env' := senv) zLe (by unfold nst sst; (exact zLes)) (spoil_1 l hl j hj i n hn hi d ds hg c c0 hc j hD h1)
theorem c_spoil (l : List Int) (hl : Tp l) (j : Nat) (hj : j ≤ l.length) (i : TInt) (n : Nat) (hn : n < 90000) (hi : SpI n i) : Gen Gl 26 [eIntent i] l j fun r => ∃ t : TInt, SpI (n + 3) t ∧ r = eIntent t := by
 by_cases h1 : nxV l j 14 = 1
 ·cases hg : i.groups with
  | nil => exact c_spoil1n l hl j hj i n hn hi hg h1
  | cons d ds => exact c_spoil1 l hl j hj i n hn hi d ds hg h1
 ·exact c_spoil0 l hl j hj i n hn hi h1
end
section
variable {Gl : Glob}
attribute [local irreducible] PW PWL OpP PCalls PWO PWT bothT
theorem subnets_ok : ∀ p ∈ subnets, rvalid p = true := by decide
theorem rvalid_of {a b s : Int} (hb : 0 ≤ b ∧ b ≤ 32) (hs : rsize b = s) (_h0 : 0 < s) (ha : 0 ≤ a ∧ a < 4294967296) (hm : a % s = 0) : rvalid ⟨a, b⟩ = true := by
 unfold rvalid
 dsimp only
 rw [hs, IntKind.wrap_u64, decide_eq_true hb.1, decide_eq_true hb.2]
 have e : a % 18446744073709551616 = a := Int.emod_eq_of_lt ha.1 (by omega)
 rw [e, Int.tmod_eq_emod_of_nonneg ha.1, hm]
 rfl
theorem shift_ok {a s : Int} (ha : 0 ≤ a ∧ a < 4294967296) (h0 : 0 < s) : (0 ≤ a / s * s ∧ a / s * s < 4294967296) ∧ a / s * s % s = 0 := by
 have h1 : a / s * s ≤ a := Int.ediv_mul_le a (by omega)
 have h2 : 0 ≤ a / s := Int.ediv_nonneg ha.1 (by omega)
 exact ⟨⟨Int.mul_nonneg h2 (by omega), by omega⟩, Int.mul_emod_left _ _⟩
theorem prefix_ok {a b : Int} (ha : 0 ≤ a ∧ a < 4294967296) (hb : b ∈ someBits) (h : b < 32) : rvalid ⟨IntKind.u32.wrap (a.fdiv (2 ^ (min (32 - b).toNat IntKind.u32.bits)) * 2 ^ (min (32 - b).toNat IntKind.u32.bits)), b⟩ = true := by
 have key : ∀ (s : Int), 0 < s → (2 : Int) ^ (min (32 - b).toNat IntKind.u32.bits) = s → rsize b = s → 0 ≤ b → rvalid ⟨IntKind.u32.wrap (a.fdiv (2 ^ (min (32 - b).toNat IntKind.u32.bits)) * 2 ^ (min (32 - b).toNat IntKind.u32.bits)), b⟩ = true := by
  intro s h0 h1 h2 h3
  rw [h1, Int.fdiv_eq_ediv_of_nonneg a (by omega), IntKind.wrap_u32]
  have := shift_ok (s := s) ha h0
  rw [Int.emod_eq_of_lt this.1.1 this.1.2]
  exact rvalid_of ⟨h3, by omega⟩ h2 h0 this.1 this.2
 simp only [someBits, List.mem_cons, List.mem_nil_iff, or_false] at hb
 rcases hb with rfl | rfl | rfl | rfl | rfl | rfl | rfl | rfl | rfl | rfl
 ·omega
 all_goals exact key _ (by decide) rfl (by decide) (by decide)
theorem c_gPrefix (l : List Int) (hl : Tp l) (i : Nat) (hi : i ≤ l.length) : Gen Gl 37 [] l i fun r => ∃ p : TPfx, (PfxIn p ∧ rvalid p = true) ∧ r = ePfx p := by
 refine PCalls.of hT Tryz.func37 rfl 1 (Nat.le_refl _) fun B hD => ?_
 refine pw_norm rfl ?_
 (refine zGo ?_)
 (refine pl_op rfl (zCl [0] e17 (c13n l hl i hi 3 (by decide) (by decide)) (fun r s hq => ?_)); obtain ⟨i1, ⟨m1, hm1, rfl⟩, hi1, rfl⟩ := hq; refine ⟨rfl, rfl, ?_⟩; (refine zNp ?_))
 (refine zGo ?_)
 refine pw_cond rfl (fun h => ?_) (fun h => ?_)
 ·(refine zGo ?_)
  (refine pl_op rfl (zCl [0] e17 (c13n l hl i1 hi1 6 (by decide) (by decide)) (fun r s hq => ?_)); obtain ⟨i2, ⟨m2, hm2, rfl⟩, hi2, rfl⟩ := hq; refine ⟨rfl, rfl, ?_⟩; (refine zNp ?_))
  (refine pl_op rfl (op_fun (c37 m2) rfl rfl e43 zLe rfl (fun r hr => ?_)); obtain ⟨p, hp, rfl⟩ := hr; refine ⟨rfl, ?_⟩; (refine zNp ?_))
  (refine zGo ?_)
  exact ⟨_, _, _, rfl, ⟨i2, ⟨p, ⟨subnets_in hp, subnets_ok p hp⟩, rfl⟩, hi2, rfl⟩, .inr (.inl rfl), ⟨.inr (.inl rfl), trivial⟩, rfl, rfl⟩
 ·(refine zGo ?_)
  (refine pl_op rfl (zCl [0] e17 (c13n l hl i1 hi1 10 (by decide) (by decide)) (fun r s hq => ?_)); obtain ⟨i2, ⟨m2, hm2, rfl⟩, hi2, rfl⟩ := hq; refine ⟨rfl, rfl, ?_⟩; (refine zNp ?_))
  (refine pl_op rfl (op_of (v_index (p := .int .i64 (someBits.getD m2 0)) hT rfl rfl rfl rfl (by omega) (lit_at (.int .i64) someBits m2 0 hm2) rfl) ?_); (refine zNp ?_))
  have hb : 0 ≤ someBits.getD m2 0 ∧ someBits.getD m2 0 ≤ 32 := by
   have : ∀ b ∈ someBits, 0 ≤ b ∧ b ≤ 32 := by decide
   exact this _ (getD_mem hm2)
  have hbm : someBits.getD m2 0 ∈ someBits := getD_mem hm2
  generalize someBits.getD m2 0 = bits at hb hbm ⊢
  (refine zGo ?_)
  (refine pl_op rfl (zCl [0] e57 (c22 l hl i2 hi2) (fun r s hq => ?_)); obtain ⟨i3, ⟨a, ha, rfl⟩, hi3, rfl⟩ := hq; refine ⟨rfl, rfl, ?_⟩; (refine zNp ?_))
  (refine zGo ?_)
  refine pw_cond rfl (fun h2 => ?_) (fun h2 => ?_)
  ·simp only [decide_eq_true_eq] at h2
   (refine zGo ?_)
   (refine pl_op rfl (op_of (v_conv (c := 32 - bits) hT rfl rfl rfl rfl (IntWalk.u64_in _ (by omega))) ?_); (refine zNp ?_))
   (refine pl_op rfl (op_of (v_shr rfl rfl rfl (by omega) rfl) ?_); (refine zNp ?_))
   (refine zGo ?_)
   (refine pl_op rfl (op_of (v_conv (c := 32 - bits) hT rfl rfl rfl rfl (IntWalk.u64_in _ (by omega))) ?_); (refine zNp ?_))
   (refine pl_op rfl (op_of (v_shl rfl rfl rfl (by omega) rfl) ?_); (refine zNp ?_))
   (refine zGo ?_)
   exact ⟨_, _, _, rfl, ⟨i3, ⟨⟨_, bits⟩, ⟨u32_range _, prefix_ok ha hbm h2⟩, rfl⟩, hi3, rfl⟩, .inr (.inl rfl), ⟨.inr (.inl rfl), trivial⟩, rfl, rfl⟩
  ·simp only [decide_eq_false_iff_not] at h2
   obtain rfl : bits = 32 := by omega
   (refine zGo ?_)
   exact ⟨_, _, _, rfl, ⟨i3, ⟨⟨a, 32⟩, ⟨ha, rvalid_of (by decide) (by decide) (by decide) ha (Int.emod_one a)⟩, rfl⟩, hi3, rfl⟩, .inr (.inl rfl), ⟨.inr (.inl rfl), trivial⟩, rfl, rfl⟩

end
end Go.Proofs.YtkaobkjcjodffaaGreatDoor