/-
  Contracts of functions, walked over pure values.
-/
import Derived.Test.YtdehdgbdcfkpbaaGreatDoorKE5
import Derived.Test.YtdehdgbdcfkpbaaGreatDoorKP5
import Derived.Test.YtdehdgbdcfkpbaaGreatDoorKC3
import Derived.Test.YtdehdgbdcfkpbaaGreatDoorJPwLoop
namespace Go.Proofs.YtdehdgbdcfkpbaaGreatDoor
open Go Go.Pw
variable {Gl : Glob}
attribute [local irreducible] PW PWL OpP PCalls PWO
set_option maxHeartbeats 20000000
set_option maxRecDepth 100000

theorem ifT {α : Type} {b : Bool} {x y : α} (h : b = true) : (if b = true then x else y) = x := if_pos h
theorem ifF {α : Type} {b : Bool} {x y : α} (h : b = false) : (if b = true then x else y) = y := if_neg (by rw [h]; exact Bool.false_ne_true)
theorem c66' (t : Topo) (name : Str) (hl : Small t.devs) : PFun Tryz.prog Gl 66 [eTopo t, .str name] fun r => r = .int .i64 (tDevice t name) := c66 t name hl
/-! ### the reference's reader: links -/
theorem c118 (t : Topo) (ht : TOk t) (told : Bool) (c : Caps) (w : List Str) (hw : WOk w) : PCalls Tryz.prog Gl 118 [.ptr 0 0, .sl (w.map .str)] (pst t told c) fun r s => LinePost (qLink t told w) r s := by
  refine PCalls.of hT Tryz.func118 rfl 5 (Nat.le_refl _) fun B hD => ?_
  refine pw_norm rfl ?_
  have hwl := hw.len
  unfold Small at hwl
  rw [qLink]
  (refine zGo ?_)
  (refine pl_or 5 12 17 (!(w.getD 3 [] == kCost)) rfl rfl rfl (fun hb => ?_) (fun hb => ?_) ?_; (focus ((refine zNp ?_); (refine zGo ?_); exact ⟨by (exact zLe), StLe.refl _⟩)); (focus ((refine zNp ?_); (refine zGo ?_); have hlen : w.length = 5 := (by simp at hb; omega); (refine pl_on rfl rfl (op_of (v_index (p := .str (w.getD 3 [])) hT rfl rfl rfl rfl (by omega) (str_at w 3 (by omega)) rfl) ?_); (refine zNp ?_)); (refine zGo ?_); exact ⟨by (exact zLe), StLe.refl _⟩)); (refine zNp ?_); (refine zGo ?_))
  refine pw_cond rfl (fun h => ?_) (fun h => ?_)
  · rw [List.length_map] at h
    rw [ifT h]
    (refine zGo ?_)
    exact ⟨_, _, _, rfl, ⟨c, rfl, rfl⟩, .inr (.inl rfl), ⟨.inr (.inl rfl), .inr (.inl rfl), .inr (.inl rfl), .inr (.inl rfl), .inr (.inl rfl), trivial⟩, rfl, rfl⟩
  rw [List.length_map] at h
  rw [ifF h]
  have hlen : w.length = 5 := by have := (Bool.or_eq_false_iff.1 h).1; simp at this; omega
  (refine zGo ?_)
  (refine pl_op rfl (op_of (v_index (p := .str (w.getD 4 [])) hT rfl rfl rfl rfl (by omega) (str_at w 4 (by omega)) rfl) ?_); (refine zNp ?_))
  (refine zGo ?_)
  (refine pl_op rfl (op_fun (c121 (w.getD 4 []) 1 1000 (hw.small 4) (by decide)) rfl rfl e121 zLe rfl (fun r hr => ?_)); subst hr; refine ⟨rfl, ?_⟩; (refine zNp ?_))
  generalize tnum (w.getD 4 []) 1 1000 = N
  (refine zGo ?_)
  refine pw_draw [(0, true), (1, true), (2, true), (3, true), (4, true), (5, true), (6, true), (8, true), (9, true), (10, true), (11, true), (12, true), (13, true), (14, true), (7, false), (15, false), (16, true), (17, true)] hmix (by decide +kernel) ?_
  (refine zDgo ?_)
  (refine po_val rfl rfl (v_index (p := .str (w.getD 1 [])) hT rfl rfl rfl rfl (by omega) (str_at w 1 (by omega)) rfl) ?_; refine zDn ?_)
  (refine zDgo ?_)
  (refine po_val rfl rfl (v_index (p := .str (w.getD 2 [])) hT rfl rfl rfl rfl (by omega) (str_at w 2 (by omega)) rfl) ?_; refine zDn ?_)
  (refine zDgo ?_)
  (refine po_step rfl rfl (op_lend0 (c66' t (w.getD 1 []) ht.devs) rfl rfl e66 zLef rfl (fun r hr => ?_)); subst hr; refine ⟨rfl, zLok, ?_⟩; refine zDn ?_)
  (refine zDgo ?_)
  (refine po_step rfl rfl (op_lend0 (c66' t (w.getD 2 []) ht.devs) rfl rfl e66 zLef rfl (fun r hr => ?_)); subst hr; refine ⟨rfl, zLok, ?_⟩; refine zDn ?_)
  (refine zDgo ?_)
  generalize tDevice t (w.getD 1 []) = a
  generalize tDevice t (w.getD 2 []) = b
  (refine zGo ?_)
  refine pw_cond rfl (fun h1 => ?_) (fun h1 => ?_)
  · rw [ifT h1]
    (refine zGo ?_)
    exact ⟨_, _, _, rfl, ⟨c, rfl, rfl⟩, .inr (.inl rfl), ⟨.inr (.inl rfl), .inr (.inl rfl), .inr (.inl rfl), .inr (.inl rfl), .inr (.inl rfl), trivial⟩, rfl, rfl⟩
  rw [ifF h1]
  (refine zGo ?_)
  (refine pl_or 3 48 51 (decide (b < 0)) rfl rfl rfl (fun hb => ?_) (fun hb => ?_) ?_; (focus ((refine zNp ?_); (refine zGo ?_); exact ⟨by (exact zLe), StLe.refl _⟩)); (focus ((refine zNp ?_); (refine zGo ?_); exact ⟨by (exact zLe), StLe.refl _⟩)); (refine zNp ?_); (refine zGo ?_))
  refine pw_cond rfl (fun h2 => ?_) (fun h2 => ?_)
  · rw [ifT h2]
    (refine zGo ?_)
    exact ⟨_, _, _, rfl, ⟨c, rfl, rfl⟩, .inr (.inl rfl), ⟨.inr (.inl rfl), .inr (.inl rfl), .inr (.inl rfl), .inr (.inl rfl), .inr (.inl rfl), trivial⟩, rfl, rfl⟩
  rw [ifF h2]
  (refine zGo ?_)
  refine pw_cond rfl (fun h3 => ?_) (fun h3 => ?_)
  · rw [ifT h3]
    (refine zGo ?_)
    exact ⟨_, _, _, rfl, ⟨c, rfl, rfl⟩, .inr (.inl rfl), ⟨.inr (.inl rfl), .inr (.inl rfl), .inr (.inl rfl), .inr (.inl rfl), .inr (.inl rfl), trivial⟩, rfl, rfl⟩
  rw [ifF h3]
  (refine zGo ?_)
  refine pw_cond rfl (fun h4 => ?_) (fun h4 => ?_)
  · rw [List.length_map] at h4
    rw [ifT h4]
    (refine zGo ?_)
    exact ⟨_, _, _, rfl, ⟨c, rfl, rfl⟩, .inr (.inl rfl), ⟨.inr (.inl rfl), .inr (.inl rfl), .inr (.inl rfl), .inr (.inl rfl), .inr (.inl rfl), trivial⟩, rfl, rfl⟩
  rw [List.length_map] at h4
  rw [ifF h4]
  have hpl := ht.links
  unfold Small at hpl
  (refine zGo ?_)
  (refine pl_op rfl (op_of (v_min rfl rfl rfl) ?_); (refine zNp ?_))
  (refine zGo ?_)
  (refine pl_op rfl (op_of (v_max rfl rfl rfl) ?_); (refine zNp ?_))
  (refine zGo ?_)
  (refine pl_append (b := 24) hT hD rfl rfl rfl rfl rfl rfl rfl rfl (.inl (Nat.zero_lt_succ _)) rfl rfl (by simp; omega) (fun cap' _ hcap => ?_); (refine zNp ?_))
  (refine zGo ?_)
  refine ⟨_, _, pst _ told (c.1, cap', c.2.2), rfl, ⟨_, rfl, rfl⟩, .inr (.inl rfl), ?_, rfl, rfl⟩
  simp only [pst, pBox, List.map_append, List.length_append]
  exact ⟨.inr (.inl rfl), .inr (.inl rfl), .inr (.inl rfl), .inr (.inl rfl), .inr (.inl rfl), trivial⟩
/-! ### devices -/
theorem drop_at (w : List Str) (k i : Nat) (h : i < (w.drop k).length) : ((w.drop k).map PV.str)[i]? = some (.str (w.getD (k + i) [])) := by
  rw [List.getElem?_map, List.getElem?_drop, List.getD]
  rw [List.length_drop] at h
  rw [List.getElem?_eq_getElem (by omega)]; rfl
theorem opt_drop (w : List Str) (k : Nat) (x : Str) : (decide ((((w.drop k).map PV.str).length : Int) > 0) && (w.getD (k + 0) [] == x)) = opt w k x := by
  rw [List.length_map, List.length_drop, Nat.add_zero]
  unfold opt
  by_cases h : k < w.length
  · rw [decide_eq_true (by omega), List.getD, List.getElem?_eq_getElem h, Bool.true_and]
    rw [Bool.eq_iff_iff]; simp
  · rw [decide_eq_false (by omega), List.getElem?_eq_none (by omega)]; simp
theorem qDevC_drop (w : List Str) : (((((w.drop (n2 w)).map PV.str).length : Int) == 2) && (w.getD (n2 w + 0) [] == sClass)) = ((((w.length - n2 w : Nat) : Int) == 2) && opt w (n2 w) sClass) := by
  rw [← opt_drop, List.length_map, List.length_drop]
  cases h : (((w.length - n2 w : Nat) : Int) == 2) with
  | false => rfl
  | true =>
    have h2 : ((w.length - n2 w : Nat) : Int) = 2 := beq_iff_eq.1 h
    rw [decide_eq_true (by omega)]; simp
theorem c117 (t : Topo) (ht : TOk t) (told : Bool) (c : Caps) (w : List Str) (hw : WOk w) : PCalls Tryz.prog Gl 117 [.ptr 0 0, .sl (w.map .str)] (pst t told c) fun r s => LinePost (qDev t told w) r s := by
  refine PCalls.of hT Tryz.func117 rfl 5 (Nat.le_refl _) fun B hD => ?_
  refine pw_norm rfl ?_
  have hwl := hw.len
  unfold Small at hwl
  rw [qDev]
  (refine zGo ?_)
  (refine pl_or 5 11 16 (!(w.getD 2 [] == kCap)) rfl rfl rfl (fun hb => ?_) (fun hb => ?_) ?_; (focus ((refine zNp ?_); (refine zGo ?_); exact ⟨by (exact zLe), StLe.refl _⟩)); (focus ((refine zNp ?_); (refine zGo ?_); have hlen : 4 ≤ w.length := lt4 hb; (refine pl_on rfl rfl (op_of (v_index (p := .str (w.getD 2 [])) hT rfl rfl rfl rfl (by omega) (str_at w 2 (by omega)) rfl) ?_); (refine zNp ?_)); (refine zGo ?_); exact ⟨by (exact zLe), StLe.refl _⟩)); (refine zNp ?_); (refine zGo ?_))
  (refine pl_or 6 17 23 (!vname (w.getD 1 [])) rfl rfl rfl (fun hb => ?_) (fun hb => ?_) ?_; (focus ((refine zNp ?_); (refine zGo ?_); exact ⟨by (exact zLe), StLe.refl _⟩)); (focus ((refine zNp ?_); (refine zGo ?_); have hlen : 4 ≤ w.length := lt4 (Bool.or_eq_false_iff.1 hb).1; (refine pl_on rfl rfl (op_of (v_index (p := .str (w.getD 1 [])) hT rfl rfl rfl rfl (by omega) (str_at w 1 (by omega)) rfl) ?_); (refine zNp ?_)); (refine zGo ?_); (refine pl_on rfl rfl (op_fun (c92 (w.getD 1 [])) rfl rfl e92 zLe rfl (fun r hr => ?_)); subst hr; refine ⟨rfl, ?_⟩; (refine zNp ?_)); (refine zGo ?_); exact ⟨by (exact zLe), StLe.refl _⟩)); (refine zNp ?_); (refine zGo ?_))
  (refine pl_or 6 24 30 (!digitsB (w.getD 3 [])) rfl rfl rfl (fun hb => ?_) (fun hb => ?_) ?_; (focus ((refine zNp ?_); (refine zGo ?_); exact ⟨by (exact zLe), StLe.refl _⟩)); (focus ((refine zNp ?_); (refine zGo ?_); have hlen : 4 ≤ w.length := lt4 (Bool.or_eq_false_iff.1 (Bool.or_eq_false_iff.1 hb).1).1; (refine pl_on rfl rfl (op_of (v_index (p := .str (w.getD 3 [])) hT rfl rfl rfl rfl (by omega) (str_at w 3 (by omega)) rfl) ?_); (refine zNp ?_)); (refine zGo ?_); (refine pl_on rfl rfl (op_fun (c134 (w.getD 3 []) (hw.small 3)) rfl rfl e134 zLe rfl (fun r hr => ?_)); subst hr; refine ⟨rfl, ?_⟩; (refine zNp ?_)); (refine zGo ?_); exact ⟨by (exact zLe), StLe.refl _⟩)); (refine zNp ?_); (refine zGo ?_))
  refine pw_cond rfl (fun h => ?_) (fun h => ?_)
  · rw [List.length_map] at h
    rw [ifT h]
    (refine zGo ?_)
    exact ⟨_, _, _, rfl, ⟨c, rfl, rfl⟩, .inr (.inl rfl), ⟨.inr (.inl rfl), .inr (.inl rfl), .inr (.inl rfl), .inr (.inl rfl), .inr (.inl rfl), trivial⟩, rfl, rfl⟩
  have hlen : 4 ≤ w.length := lt4 (Bool.or_eq_false_iff.1 (Bool.or_eq_false_iff.1 (Bool.or_eq_false_iff.1 h).1).1).1
  rw [List.length_map] at h
  rw [ifF h]
  clear h
  have hn1 : n1 w ≤ w.length := optN_le (by omega)
  have hn2 : n2 w ≤ w.length := optN_le hn1
  (refine zGo ?_)
  (refine pl_op rfl (op_of (v_index (p := .str (w.getD 3 [])) hT rfl rfl rfl rfl (by omega) (str_at w 3 (by omega)) rfl) ?_); (refine zNp ?_))
  (refine zGo ?_)
  (refine pl_op rfl (op_fun (c121 (w.getD 3 []) 0 4096 (hw.small 3) (by decide)) rfl rfl e121 zLe rfl (fun r hr => ?_)); subst hr; refine ⟨rfl, ?_⟩; (refine zNp ?_))
  generalize tnum (w.getD 3 []) 0 4096 = N
  (refine zGo ?_)
  (refine pl_op rfl (op_of (v_index (p := .str (w.getD 1 [])) hT rfl rfl rfl rfl (by omega) (str_at w 1 (by omega)) rfl) ?_); (refine zNp ?_))
  (refine zGo ?_)
  (refine pl_op rfl (op_of (v_dropM (m := 4) hT rfl rfl rfl rfl hlen (fun _ => rfl)) ?_); (refine zNp ?_))
  (refine zGo ?_)
  (refine pl_and 5 48 53 (w.getD (4 + 0) [] == sRanges) rfl rfl rfl (fun hb => ?_) (fun hb => ?_) ?_; (focus ((refine zNp ?_); (refine zGo ?_); (refine pl_on rfl rfl (op_of (v_index (p := .str (w.getD (4 + 0) [])) hT rfl rfl rfl rfl (by omega) (drop_at w 4 0 (by simp only [decide_eq_true_eq, List.length_map] at hb; omega)) rfl) ?_); (refine zNp ?_)); (refine zGo ?_); exact ⟨by (exact zLe), StLe.refl _⟩)); (focus ((refine zNp ?_); (refine zGo ?_); exact ⟨by (exact zLe), StLe.refl _⟩)); (refine zNp ?_); (refine zGo ?_))
  rw [opt_drop w 4 sRanges]
  refine pw_join hD True [(1, .sl ((w.drop (n1 w)).map .str)), (7, .ptr 5 0)] [pBox t told c, .arr 5 (t.devs.map eDev) c.1, .arr 3 (t.links.map eLink) c.2.1, .arr 6 (t.edges.map eEdge) c.2.2.1, .arr 2 (t.pools.map ePfx) c.2.2.2, .box [.str (w.getD 1 []), .int .i64 N.1, .bool (opt w 4 sRanges), .bool false, .str []]] 6 rfl rfl rfl rfl ?_ (fun _ => ?_)
  · refine pw_cond rfl (fun h => ?_) (fun h => ?_)
    · have e1 : n1 w = 4 + 1 := optN_yes h
      have hlt := opt_lt h
      rw [h, e1, ← List.drop_drop]
      (refine zGo ?_)
      refine pw_draw [(0, true), (1, true), (2, true), (3, false), (4, true)] hmix (by decide +kernel) ?_
      (refine zDgo ?_)
      (refine po_val rfl rfl (v_dropM (m := 1) hT rfl rfl rfl rfl (by simp; omega) (fun _ => rfl)) ?_; refine zDn ?_)
      (refine zDgo ?_)
      (refine zGo ?_)
      exact ⟨trivial, by (exact zLe), by (exact zLes)⟩
    · have e1 : n1 w = 4 := optN_no h
      rw [h, e1]
      (refine zGo ?_)
      exact ⟨trivial, by (exact zLe), by (exact zLes)⟩
  (refine zGo ?_)
  (refine pl_and 5 60 65 (w.getD (n1 w + 0) [] == sVol) rfl rfl rfl (fun hb => ?_) (fun hb => ?_) ?_; (focus ((refine zNp ?_); (refine zGo ?_); (refine pl_on rfl rfl (op_of (v_index (p := .str (w.getD (n1 w + 0) [])) hT rfl rfl rfl rfl (by omega) (drop_at w (n1 w) 0 (by simp only [decide_eq_true_eq, List.length_map] at hb; omega)) rfl) ?_); (refine zNp ?_)); (refine zGo ?_); exact ⟨by (exact zLe), StLe.refl _⟩)); (focus ((refine zNp ?_); (refine zGo ?_); exact ⟨by (exact zLe), StLe.refl _⟩)); (refine zNp ?_); (refine zGo ?_))
  rw [opt_drop w (n1 w) sVol]
  refine pw_join hD True [(1, .sl ((w.drop (n2 w)).map .str)), (7, .ptr 5 0)] [pBox t told c, .arr 5 (t.devs.map eDev) c.1, .arr 3 (t.links.map eLink) c.2.1, .arr 6 (t.edges.map eEdge) c.2.2.1, .arr 2 (t.pools.map ePfx) c.2.2.2, .box [.str (w.getD 1 []), .int .i64 N.1, .bool (opt w 4 sRanges), .bool (opt w (n1 w) sVol), .str []]] 6 rfl rfl rfl rfl ?_ (fun _ => ?_)
  · refine pw_cond rfl (fun h => ?_) (fun h => ?_)
    · have e1 : n2 w = n1 w + 1 := optN_yes h
      have hlt := opt_lt h
      rw [h, e1, ← List.drop_drop]
      (refine zGo ?_)
      refine pw_draw [(0, true), (1, true), (2, true), (3, false), (4, true)] hmix (by decide +kernel) ?_
      (refine zDgo ?_)
      (refine po_val rfl rfl (v_dropM (m := 1) hT rfl rfl rfl rfl (by simp; omega) (fun _ => rfl)) ?_; refine zDn ?_)
      (refine zDgo ?_)
      (refine zGo ?_)
      exact ⟨trivial, by (exact zLe), by (exact zLes)⟩
    · have e1 : n2 w = n1 w := optN_no h
      rw [h, e1]
      (refine zGo ?_)
      exact ⟨trivial, by (exact zLe), by (exact zLes)⟩
  (refine zGo ?_)
  have h2 : (((((w.drop (n2 w)).map PV.str).length : Int) == 2) = true) → (w.drop (n2 w)).length = 2 := fun h => by
    have := beq_iff_eq.1 h
    rw [List.length_map] at this
    omega
  (refine pl_and 5 72 77 (w.getD (n2 w + 0) [] == sClass) rfl rfl rfl (fun hb => ?_) (fun hb => ?_) ?_; (focus ((refine zNp ?_); (refine zGo ?_); (refine pl_on rfl rfl (op_of (v_index (p := .str (w.getD (n2 w + 0) [])) hT rfl rfl rfl rfl (by omega) (drop_at w (n2 w) 0 (by rw [h2 hb]; decide)) rfl) ?_); (refine zNp ?_)); (refine zGo ?_); exact ⟨by (exact zLe), StLe.refl _⟩)); (focus ((refine zNp ?_); (refine zGo ?_); exact ⟨by (exact zLe), StLe.refl _⟩)); (refine zNp ?_); (refine zGo ?_))
  (refine pl_and 5 78 83 (vname (w.getD (n2 w + 1) [])) rfl rfl rfl (fun hb => ?_) (fun hb => ?_) ?_; (focus ((refine zNp ?_); (refine zGo ?_); have hl2 := h2 (Bool.and_eq_true_iff.1 hb).1; (refine pl_on rfl rfl (op_of (v_index (p := .str (w.getD (n2 w + 1) [])) hT rfl rfl rfl rfl (by omega) (drop_at w (n2 w) 1 (by rw [hl2]; decide)) rfl) ?_); (refine zNp ?_)); (refine zGo ?_); (refine pl_on rfl rfl (op_fun (c92 (w.getD (n2 w + 1) [])) rfl rfl e92 zLe rfl (fun r hr => ?_)); subst hr; refine ⟨rfl, ?_⟩; (refine zNp ?_)); (refine zGo ?_); exact ⟨by (exact zLe), StLe.refl _⟩)); (focus ((refine zNp ?_); (refine zGo ?_); exact ⟨by (exact zLe), StLe.refl _⟩)); (refine zNp ?_); (refine zGo ?_))
  rw [qDevC_drop w]
  rw [show ((((((w.length - n2 w : Nat) : Int) == 2) && opt w (n2 w) sClass)) && vname (w.getD (n2 w + 1) [])) = qDevC w from rfl]
  refine pw_join hD True [(1, .sl ((if qDevC w = true then [] else w.drop (n2 w)).map .str)), (7, .ptr 5 0)] [pBox t told c, .arr 5 (t.devs.map eDev) c.1, .arr 3 (t.links.map eLink) c.2.1, .arr 6 (t.edges.map eEdge) c.2.2.1, .arr 2 (t.pools.map ePfx) c.2.2.2, .box [.str (w.getD 1 []), .int .i64 N.1, .bool (opt w 4 sRanges), .bool (opt w (n1 w) sVol), .str (if qDevC w = true then w.getD (n2 w + 1) [] else [])]] 6 rfl rfl rfl rfl ?_ (fun _ => ?_)
  · refine pw_cond rfl (fun h => ?_) (fun h => ?_)
    · have hq : (((((w.length - n2 w : Nat) : Int) == 2) && opt w (n2 w) sClass) && vname (w.getD (n2 w + 1) [])) = true := h
      have hl2 : (w.drop (n2 w)).length = 2 := by
        have := beq_iff_eq.1 (Bool.and_eq_true_iff.1 (Bool.and_eq_true_iff.1 hq).1).1
        rw [List.length_drop]; omega
      rw [ifT h, ifT h]
      (refine zGo ?_)
      (refine pl_op rfl (op_of (v_index (p := .str (w.getD (n2 w + 1) [])) hT rfl rfl rfl rfl (by omega) (drop_at w (n2 w) 1 (by rw [hl2]; decide)) rfl) ?_); (refine zNp ?_))
      (refine zGo ?_)
      exact ⟨trivial, by (exact zLe), by (exact zLes)⟩
    · rw [ifF h, ifF h]
      (refine zGo ?_)
      exact ⟨trivial, by (exact zLe), by (exact zLes)⟩
  have hgt : decide (((((if qDevC w = true then [] else w.drop (n2 w)) : List Str).map PV.str).length : Int) > 0) = (!qDevC w && decide (((w.length - n2 w : Nat) : Int) > 0)) := by
    cases qDevC w with
    | true => rfl
    | false => rw [ifF rfl, List.length_map, List.length_drop]; rfl
  (refine zGo ?_)
  refine pw_cond rfl (fun h3 => ?_) (fun h3 => ?_)
  · rw [ifT (hgt.symm.trans h3)]
    (refine zGo ?_)
    exact ⟨_, _, _, rfl, ⟨c, rfl, rfl⟩, .inr (.inl rfl), ⟨.inr (.inl rfl), .inr (.inl rfl), .inr (.inl rfl), .inr (.inl rfl), .inr (.inl rfl), trivial⟩, rfl, rfl⟩
  rw [ifF (hgt.symm.trans h3)]
  (refine zGo ?_)
  refine pw_cond rfl (fun h4 => ?_) (fun h4 => ?_)
  · rw [ifT h4]
    (refine zGo ?_)
    exact ⟨_, _, _, rfl, ⟨c, rfl, rfl⟩, .inr (.inl rfl), ⟨.inr (.inl rfl), .inr (.inl rfl), .inr (.inl rfl), .inr (.inl rfl), .inr (.inl rfl), trivial⟩, rfl, rfl⟩
  rw [ifF h4]
  (refine zGo ?_)
  refine pw_draw [(0, true), (1, true), (2, true), (3, true), (4, true), (5, true), (6, false), (7, true), (8, true)] hmix (by decide +kernel) ?_
  (refine zDgo ?_)
  (refine po_step rfl rfl (op_lend0 (c66' t (w.getD 1 []) ht.devs) rfl rfl e66 zLef rfl (fun r hr => ?_)); subst hr; refine ⟨rfl, zLok, ?_⟩; refine zDn ?_)
  (refine zDgo ?_)
  (refine zGo ?_)
  refine pw_cond rfl (fun h5 => ?_) (fun h5 => ?_)
  · rw [ifT h5]
    (refine zGo ?_)
    exact ⟨_, _, _, rfl, ⟨c, rfl, rfl⟩, .inr (.inl rfl), ⟨.inr (.inl rfl), .inr (.inl rfl), .inr (.inl rfl), .inr (.inl rfl), .inr (.inl rfl), trivial⟩, rfl, rfl⟩
  rw [ifF h5]
  (refine zGo ?_)
  refine pw_cond rfl (fun h6 => ?_) (fun h6 => ?_)
  · rw [List.length_map] at h6
    rw [ifT h6]
    (refine zGo ?_)
    exact ⟨_, _, _, rfl, ⟨c, rfl, rfl⟩, .inr (.inl rfl), ⟨.inr (.inl rfl), .inr (.inl rfl), .inr (.inl rfl), .inr (.inl rfl), .inr (.inl rfl), trivial⟩, rfl, rfl⟩
  rw [List.length_map] at h6
  rw [ifF h6]
  have hpl := ht.devs
  unfold Small at hpl
  (refine zGo ?_)
  refine pw_draw [(0, true), (1, true), (2, true), (3, true), (4, true), (5, true), (6, true), (7, true), (8, false), (9, true), (10, true), (11, true), (12, false)] hmix (by decide +kernel) ?_
  (refine zDgo ?_)
  (refine po_make rfl rfl (fun st' K hK => op_litF hT rfl rfl rfl rfl rfl (by decide) rfl rfl rfl rfl hK) ?_; refine zDn ?_)
  (refine po_step rfl rfl (op_append (b := 48) hT rfl rfl rfl rfl rfl rfl (.inl (Nat.zero_lt_succ _)) rfl rfl (by simp; omega) (fun cap' _ hcap => ⟨zLok, ?_⟩)); refine zDn ?_)
  (refine zDgo ?_)
  (refine pw_mv 1 6 hD rfl rfl rfl rfl rfl ?_; refine pw_norm rfl ?_)
  (refine pw_trim 6 hD rfl rfl ?_; refine pw_norm rfl ?_)
  (refine zGo ?_)
  refine ⟨_, _, pst _ told (cap', c.2), rfl, ⟨_, rfl, rfl⟩, .inr (.inl rfl), ?_, rfl, rfl⟩
  simp only [pst, pBox, List.map_append, List.length_append]
  exact ⟨.inr (.inl rfl), .inr (.inl rfl), .inr (.inl rfl), .inr (.inl rfl), .inr (.inl rfl), trivial⟩
end Go.Proofs.YtdehdgbdcfkpbaaGreatDoor
