/-
  Contracts of functions, walked over pure values.
-/
import Derived.Test.YtdehdgbdcfkpbaaGreatDoorKB9
namespace Go.Proofs.YtdehdgbdcfkpbaaGreatDoor
open Go Go.Pw
variable {Gl : Glob}
attribute [local irreducible] PW PWL OpP PCalls PWO
set_option maxHeartbeats 20000000

def fLink : List Str := [[108, 105, 110, 107], [68, 69, 86, 73, 67, 69], [68, 69, 86, 73, 67, 69], [99, 111, 115, 116], [78]]
def pLink (t : Topo) (told : Bool) (w : List Str) : LineR :=
  if !formB w fLink || !digitsB (w.getD 4 []) then (4, t, told) else
  if !(number (w.getD 4 []) 1 1000).2 then (2, t, told) else
  if decide (tDevice t (w.getD 1 []) < 0) || decide (tDevice t (w.getD 2 []) < 0) then (5, t, told) else
  if tDevice t (w.getD 1 []) == tDevice t (w.getD 2 []) then (6, t, told) else
  if decide ((t.links.length : Int) ≥ 24) then (3, t, told) else
  (0, { t with links := t.links ++ [⟨min (tDevice t (w.getD 1 [])) (tDevice t (w.getD 2 [])), max (tDevice t (w.getD 1 [])) (tDevice t (w.getD 2 [])), (number (w.getD 4 []) 1 1000).1⟩] }, told)
theorem c62 (t : Topo) (ht : TOk t) (told : Bool) (c : Caps) (w : List Str) (hw : WOk w) : PCalls Tryz.prog Gl 62 [.ptr 0 0, .sl (w.map .str)] (pst t told c) fun r s => LinePost (pLink t told w) r s := by
  refine PCalls.of hT Tryz.func62 rfl 5 (Nat.le_refl _) fun B hD => ?_
  refine pw_norm rfl ?_
  (refine zGo ?_)
  (refine pl_op rfl (op_fun (c99 w fLink hw.len (by decide)) rfl rfl e99 zLe rfl (fun r hr => ?_)); subst hr; refine ⟨rfl, ?_⟩; (refine zNp ?_))
  (refine zGo ?_)
  (refine pl_or 6 13 19 (!digitsB (w.getD 4 [])) rfl rfl rfl (fun hb => ?_) (fun hb => ?_) ?_; (focus ((refine zNp ?_); (refine zGo ?_); exact ⟨by (exact zLe), StLe.refl _⟩)); (focus ((refine zNp ?_); (refine zGo ?_); have hlen : w.length = 5 := formB_len (p := fLink) (by simpa using hb); (refine pl_on rfl rfl (op_of (v_index (p := .str (w.getD 4 [])) hT rfl rfl rfl rfl (by omega) (str_at w 4 (by omega)) rfl) ?_); (refine zNp ?_)); (refine zGo ?_); (refine pl_on rfl rfl (op_fun (c100 (w.getD 4 []) (hw.at 4)) rfl rfl e100 zLe rfl (fun r hr => ?_)); subst hr; refine ⟨rfl, ?_⟩; (refine zNp ?_)); (refine zGo ?_); exact ⟨by (exact zLe), StLe.refl _⟩)); (refine zNp ?_); (refine zGo ?_))
  refine pw_cond rfl (fun h => ?_) (fun h => ?_)
  · have e : pLink t told w = (4, t, told) := by simp only [pLink, h, if_true]
    rw [e]
    (refine zGo ?_)
    exact ⟨_, _, _, rfl, ⟨c, rfl, rfl⟩, .inr (.inl rfl), ⟨.inr (.inl rfl), .inr (.inl rfl), .inr (.inl rfl), .inr (.inl rfl), .inr (.inl rfl), trivial⟩, rfl, rfl⟩
  have hlen : w.length = 5 := formB_len (p := fLink) (by simpa using (Bool.or_eq_false_iff.1 h).1)
  (refine zGo ?_)
  (refine pl_op rfl (op_of (v_index (p := .str (w.getD 4 [])) hT rfl rfl rfl rfl (by omega) (str_at w 4 (by omega)) rfl) ?_); (refine zNp ?_))
  (refine zGo ?_)
  (refine pl_op rfl (op_fun (c103 (w.getD 4 []) 1 1000 (hw.small 4) (by omega)) rfl rfl e103 zLe rfl (fun r hr => ?_)); subst hr; refine ⟨rfl, ?_⟩; (refine zNp ?_))
  (refine zGo ?_)
  refine pw_draw [(0, true), (1, true), (2, true), (3, true), (4, true), (5, true), (6, true), (8, true), (9, true), (10, true), (11, true), (12, true), (13, true), (14, true), (7, false), (15, false), (16, true), (17, true)] hmix (by decide +kernel) ?_
  (refine zDgo ?_)
  (refine po_val rfl rfl (v_index (p := .str (w.getD 1 [])) hT rfl rfl rfl rfl (by omega) (str_at w 1 (by omega)) rfl) ?_; refine zDn ?_)
  (refine zDgo ?_)
  (refine po_val rfl rfl (v_index (p := .str (w.getD 2 [])) hT rfl rfl rfl rfl (by omega) (str_at w 2 (by omega)) rfl) ?_; refine zDn ?_)
  (refine zDgo ?_)
  (refine po_step rfl rfl (op_lend0 (c41 t (w.getD 1 []) ht.devs) rfl rfl e41 zLef rfl (fun r hr => ?_)); subst hr; refine ⟨rfl, zLok, ?_⟩; refine zDn ?_)
  (refine zDgo ?_)
  (refine po_step rfl rfl (op_lend0 (c41 t (w.getD 2 []) ht.devs) rfl rfl e41 zLef rfl (fun r hr => ?_)); subst hr; refine ⟨rfl, zLok, ?_⟩; refine zDn ?_)
  (refine zDgo ?_)
  generalize ha : tDevice t (w.getD 1 []) = a
  generalize hb : tDevice t (w.getD 2 []) = b
  (refine zGo ?_)
  refine pw_cond rfl (fun h2 => ?_) (fun h2 => ?_)
  · have e : pLink t told w = (2, t, told) := by simp only [pLink, h, h2, if_true, Bool.false_eq_true, if_false]
    rw [e]
    (refine zGo ?_)
    exact ⟨_, _, _, rfl, ⟨c, rfl, rfl⟩, .inr (.inl rfl), ⟨.inr (.inl rfl), .inr (.inl rfl), .inr (.inl rfl), .inr (.inl rfl), .inr (.inl rfl), trivial⟩, rfl, rfl⟩
  (refine zGo ?_)
  (refine pl_or 3 49 52 (decide (b < 0)) rfl rfl rfl (fun hb => ?_) (fun hb => ?_) ?_; (focus ((refine zNp ?_); (refine zGo ?_); exact ⟨by (exact zLe), StLe.refl _⟩)); (focus ((refine zNp ?_); (refine zGo ?_); exact ⟨by (exact zLe), StLe.refl _⟩)); (refine zNp ?_); (refine zGo ?_))
  refine pw_cond rfl (fun h3 => ?_) (fun h3 => ?_)
  · have e : pLink t told w = (5, t, told) := by simp only [pLink, h, h2, ha, hb, h3, if_true, Bool.false_eq_true, if_false]
    rw [e]
    (refine zGo ?_)
    exact ⟨_, _, _, rfl, ⟨c, rfl, rfl⟩, .inr (.inl rfl), ⟨.inr (.inl rfl), .inr (.inl rfl), .inr (.inl rfl), .inr (.inl rfl), .inr (.inl rfl), trivial⟩, rfl, rfl⟩
  (refine zGo ?_)
  refine pw_cond rfl (fun h4 => ?_) (fun h4 => ?_)
  · have e : pLink t told w = (6, t, told) := by simp only [pLink, h, h2, ha, hb, h3, h4, if_true, Bool.false_eq_true, if_false]
    rw [e]
    (refine zGo ?_)
    exact ⟨_, _, _, rfl, ⟨c, rfl, rfl⟩, .inr (.inl rfl), ⟨.inr (.inl rfl), .inr (.inl rfl), .inr (.inl rfl), .inr (.inl rfl), .inr (.inl rfl), trivial⟩, rfl, rfl⟩
  (refine zGo ?_)
  refine pw_cond rfl (fun h5 => ?_) (fun h5 => ?_)
  · have e : pLink t told w = (3, t, told) := by rw [List.length_map] at h5; simp only [pLink, h, h2, ha, hb, h3, h4, h5, if_true, Bool.false_eq_true, if_false]
    rw [e]
    (refine zGo ?_)
    exact ⟨_, _, _, rfl, ⟨c, rfl, rfl⟩, .inr (.inl rfl), ⟨.inr (.inl rfl), .inr (.inl rfl), .inr (.inl rfl), .inr (.inl rfl), .inr (.inl rfl), trivial⟩, rfl, rfl⟩
  have e : pLink t told w = (0, { t with links := t.links ++ [⟨min a b, max a b, (number (w.getD 4 []) 1 1000).1⟩] }, told) := by rw [List.length_map] at h5; simp only [pLink, h, h2, ha, hb, h3, h4, h5, Bool.false_eq_true, if_false]
  rw [e]
  have hpl := ht.links
  unfold Small at hpl
  (refine zGo ?_)
  (refine pl_op rfl (op_of (v_min rfl rfl rfl) ?_); (refine zNp ?_))
  (refine zGo ?_)
  (refine pl_op rfl (op_of (v_max rfl rfl rfl) ?_); (refine zNp ?_))
  (refine zGo ?_)
  (refine pl_append (b := 24) hT hD rfl rfl rfl rfl rfl rfl rfl rfl (.inl (Nat.zero_lt_succ _)) rfl rfl (by simp; omega) (fun cap' _ hcap => ?_); (refine zNp ?_))
  (refine zGo ?_)
  refine ⟨_, _, pst _ told (c.1, cap', c.2.2), rfl, ⟨_, rfl, rfl⟩, .inr (.inl rfl), ?_, rfl, rfl⟩
  simp only [pst, pBox, List.map_append, List.length_append]
  exact ⟨.inr (.inl rfl), .inr (.inl rfl), .inr (.inl rfl), .inr (.inl rfl), .inr (.inl rfl), trivial⟩
end Go.Proofs.YtdehdgbdcfkpbaaGreatDoor
