/-
  Contracts of functions, walked over pure values.
-/
import Derived.Test.YtdehdgbdcfkpbaaGreatDoorKB8
namespace Go.Proofs.YtdehdgbdcfkpbaaGreatDoor
open Go Go.Pw
variable {Gl : Glob}
attribute [local irreducible] PW PWL OpP PCalls PWO
set_option maxHeartbeats 20000000

def fLink : List Str := [[108, 105, 110, 107], [68, 69, 86, 73, 67, 69], [68, 69, 86, 73, 67, 69], [99, 111, 115, 116], [78]]
def pLink (t : Topo) (told : Bool) (w : List Str) : LineR :=
  if !formB w fLink || !digitsB (w.getD 4 []) then (4, t, told) else
  if !(number (w.getD 4 []) 1 1000).2 then (2, t, told) else
  if decide (tDevice t (w.getD 1 []) < 0) || decide (tDevice t (w.getD 2 []) < 0) then (5, t, told) else
  if tDevice t (w.getD 1 []) == tDevice t (w.getD 2 []) then (6, t, told) else
  if decide ((t.links.length : Int) ≥ 24) then (3, t, told) else
  (0, { t with links := t.links ++ [⟨min (tDevice t (w.getD 1 [])) (tDevice t (w.getD 2 [])), max (tDevice t (w.getD 1 [])) (tDevice t (w.getD 2 [])), (number (w.getD 4 []) 1 1000).1⟩] }, told)
theorem c62 (t : Topo) (ht : TOk t) (told : Bool) (c : Caps) (w : List Str) (hw : WOk w) : PCalls Tryz.prog Gl 62 [.ptr 0 0, .sl (w.map .str)] (pst t told c) fun r s => LinePost (pLink t told w) r s := by
  refine PCalls.of hT Tryz.func62 rfl 5 (Nat.le_refl _) fun B hD => ?_
  refine pw_norm rfl ?_
  (refine zGo ?_)
  (refine pl_op rfl (op_fun (c99 w fLink hw.len (by decide)) rfl rfl e99 zLe rfl (fun r hr => ?_)); subst hr; refine ⟨rfl, ?_⟩; (refine zNp ?_))
  (refine zGo ?_)
  (refine pl_or 6 13 19 (!digitsB (w.getD 4 [])) rfl rfl rfl (fun hb => ?_) (fun hb => ?_) ?_; (focus ((refine zNp ?_); (refine zGo ?_); exact ⟨by (exact zLe), StLe.refl _⟩)); (focus ((refine zNp ?_); (refine zGo ?_); have hlen : w.length = 5 := formB_len (p := fLink) (by simpa using hb); (refine pl_on rfl rfl (op_of (v_index (p := .str (w.getD 4 [])) hT rfl rfl rfl rfl (by omega) (str_at w 4 (by omega)) rfl) ?_); (refine zNp ?_)); (refine zGo ?_); (refine pl_on rfl rfl (op_fun (c100 (w.getD 4 []) (hw.at 4)) rfl rfl e100 zLe rfl (fun r hr => ?_)); subst hr; refine ⟨rfl, ?_⟩; (refine zNp ?_)); (refine zGo ?_); exact ⟨by (exact zLe), StLe.refl _⟩)); (refine zNp ?_); (refine zGo ?_))
  refine pw_cond rfl (fun h => ?_) (fun h => ?_)
  · have e : pLink t told w = (4, t, told) := by simp only [pLink, h, if_true]
    rw [e]
    (refine zGo ?_)
    exact ⟨_, _, _, rfl, ⟨c, rfl, rfl⟩, .inr (.inl rfl), ⟨.inr (.inl rfl), .inr (.inl rfl), .inr (.inl rfl), .inr (.inl rfl), .inr (.inl rfl), trivial⟩, rfl, rfl⟩
  have hlen : w.length = 5 := formB_len (p := fLink) (by simpa using (Bool.or_eq_false_iff.1 h).1)
  (refine zGo ?_)
  (refine pl_op rfl (op_of (v_index (p := .str (w.getD 4 [])) hT rfl rfl rfl rfl (by omega) (str_at w 4 (by omega)) rfl) ?_); (refine zNp ?_))
  (refine zGo ?_)
  (refine pl_op rfl (op_fun (c103 (w.getD 4 []) 1 1000 (hw.small 4) (by omega)) rfl rfl e103 zLe rfl (fun r hr => ?_)); subst hr; refine ⟨rfl, ?_⟩; (refine zNp ?_))
  (refine zGo ?_)
  refine pw_draw [(0, true), (1, true), (2, true), (3, true), (4, true), (5, true), (6, true), (8, true), (9, true), (10, true), (11, true), (12, true), (13, true), (14, true), (7, false), (15, false), (16, true), (17, true)] hmix (by decide +kernel) ?_
  (refine zDgo ?_)
  (refine po_val rfl rfl (v_index (p := .str (w.getD 1 [])) hT rfl rfl rfl rfl (by omega) (str_at w 1 (by omega)) rfl) ?_; refine zDn ?_)
  (refine zDgo ?_)
  (refine po_val rfl rfl (v_index (p := .str (w.getD 2 [])) hT rfl rfl rfl rfl (by omega) (str_at w 2 (by omega)) rfl) ?_; refine zDn ?_)
  (refine zDgo ?_)
  (refine po_step rfl rfl (op_lend0 (c41 t (w.getD 1 []) ht.devs) rfl rfl e41 zLef rfl (fun r hr => ?_)); subst hr; refine ⟨rfl, zLok, ?_⟩; refine zDn ?_)
  (refine zDgo ?_)
  (refine po_step rfl rfl (op_lend0 (c41 t (w.getD 2 []) ht.devs) rfl rfl e41 zLef rfl (fun r hr => ?_)); subst hr; refine ⟨rfl, zLok, ?_⟩; refine zDn ?_)
  (refine zDgo ?_)
  generalize ha : tDevice t (w.getD 1 []) = a
  generalize hb : tDevice t (w.getD 2 []) = b
  (refine zGo ?_)
  refine pw_cond rfl (fun h2 => ?_) (fun h2 => ?_)
  · have e : pLink t told w = (2, t, told) := by simp only [pLink, h, h2, if_true, Bool.false_eq_true, if_false]
    rw [e]
    (refine zGo ?_)
    exact ⟨_, _, _, rfl, ⟨c, rfl, rfl⟩, .inr (.inl rfl), ⟨.inr (.inl rfl), .inr (.inl rfl), .inr (.inl rfl), .inr (.inl rfl), .inr (.inl rfl), trivial⟩, rfl, rfl⟩
  (refine zGo ?_)
  (refine pl_or 3 49 52 (decide (b < 0)) rfl rfl rfl (fun hb => ?_) (fun hb => ?_) ?_; (focus ((refine zNp ?_); (refine zGo ?_); exact ⟨by (exact zLe), StLe.refl _⟩)); (focus ((refine zNp ?_); (refine zGo ?_); exact ⟨by (exact zLe), StLe.refl _⟩)); (refine zNp ?_); (refine zGo ?_))
  refine pw_cond rfl (fun h3 => ?_) (fun h3 => ?_)
  · have e : pLink t told w = (5, t, told) := by simp only [pLink, h, h2, ha, hb, h3, if_true, Bool.false_eq_true, if_false]
    rw [e]
    (refine zGo ?_)
    exact ⟨_, _, _, rfl, ⟨c, rfl, rfl⟩, .inr (.inl rfl), ⟨.inr (.inl rfl), .inr (.inl rfl), .inr (.inl rfl), .inr (.inl rfl), .inr (.inl rfl), trivial⟩, rfl, rfl⟩
  (refine zGo ?_)
  refine pw_cond rfl (fun h4 => ?_) (fun h4 => ?_)
  · have e : pLink t told w = (6, t, told) := by simp only [pLink, h, h2, ha, hb, h3, h4, if_true, Bool.false_eq_true, if_false]
    rw [e]
    (refine zGo ?_)
    exact ⟨_, _, _, rfl, ⟨c, rfl, rfl⟩, .inr (.inl rfl), ⟨.inr (.inl rfl), .inr (.inl rfl), .inr (.inl rfl), .inr (.inl rfl), .inr (.inl rfl), trivial⟩, rfl, rfl⟩
  (refine zGo ?_)
  refine pw_cond rfl (fun h5 => ?_) (fun h5 => ?_)
  · have e : pLink t told w = (3, t, told) := by rw [List.length_map] at h5; simp only [pLink, h, h2, ha, hb, h3, h4, h5, if_true, Bool.false_eq_true, if_false]
    rw [e]
    (refine zGo ?_)
    exact ⟨_, _, _, rfl, ⟨c, rfl, rfl⟩, .inr (.inl rfl), ⟨.inr (.inl rfl), .inr (.inl rfl), .inr (.inl rfl), .inr (.inl rfl), .inr (.inl rfl), trivial⟩, rfl, rfl⟩
  have e : pLink t told w = (0, { t with links := t.links ++ [⟨min a b, max a b, (number (w.getD 4 []) 1 1000).1⟩] }, told) := by rw [List.length_map] at h5; simp only [pLink, h, h2, ha, hb, h3, h4, h5, Bool.false_eq_true, if_false]
  rw [e]
  have hpl := ht.links
  unfold Small at hpl
  (refine zGo ?_)
  (refine pl_op rfl (op_of (v_min rfl rfl rfl) ?_); (refine zNp ?_))
  (refine zGo ?_)
  (refine pl_op rfl (op_of (v_max rfl rfl rfl) ?_); (refine zNp ?_))
  (refine zGo ?_)
  (refine pl_append (b := 24) hT hD rfl rfl rfl rfl rfl rfl rfl rfl (.inl (Nat.zero_lt_succ _)) rfl rfl (by simp; omega) (fun cap' _ hcap => ?_); (refine zNp ?_))
  (refine zGo ?_)
  refine ⟨_, _, pst _ told (c.1, cap', c.2.2), rfl, ⟨_, rfl, rfl⟩, .inr (.inl rfl), ?_, rfl, rfl⟩
  simp only [pst, pBox, List.map_append, List.length_append]
  exact ⟨.inr (.inl rfl), .inr (.inl rfl), .inr (.inl rfl), .inr (.inl rfl), .inr (.inl rfl), trivial⟩
end Go.Proofs.YtdehdgbdcfkpbaaGreatDoor
namespace Go.Proofs.YtdehdgbdcfkpbaaGreatDoor
open Go Go.Pw
variable {Gl : Glob}
attribute [local irreducible] PW PWL OpP PCalls PWO
set_option maxHeartbeats 20000000

def fDev : List Str := [[100, 101, 118, 105, 99, 101], [78, 65, 77, 69], [99, 97, 112, 97, 99, 105, 116, 121], [78]]
def sRanges : Str := [114, 97, 110, 103, 101, 115]
def sVol : Str := [118, 111, 108, 97, 116, 105, 108, 101]
def sClass : Str := [99, 108, 97, 115, 115]
def opt (w : List Str) (n : Nat) (word : Str) : Bool := w[n]? == some word
def optN (w : List Str) (n : Nat) (word : Str) : Nat := match w[n]? == some word with | true => n + 1 | false => n
theorem optN_le {w : List Str} {n : Nat} {word : Str} (h : n ≤ w.length) : optN w n word ≤ w.length := by
  unfold optN
  split
  · rename_i h2
    have : w[n]? = some word := by simpa using h2
    have := (List.getElem?_eq_some_iff.1 this).1
    omega
  · exact h
theorem c101' (ws : List Str) (n : Nat) (word : Str) (hl : Small ws) (hn : n ≤ ws.length) : PCalls Tryz.prog Gl 101 [.ptr 0 0, .str word] [.box [.sl (ws.map .str), .int .i64 n]] fun r s =>
    r = .bool (opt ws n word) ∧ s = [.box [.sl (ws.map .str), .int .i64 (optN ws n word : Nat)]] := c101 ws n word hl hn
def n1 (w : List Str) : Nat := optN w 4 sRanges
def n2 (w : List Str) : Nat := optN w (n1 w) sVol
def n3 (w : List Str) : Nat := optN w (n2 w) sClass
def dCls (w : List Str) : Str := if opt w (n2 w) sClass then w.getD (n3 w) [] else []
def dAt (w : List Str) : Nat := if opt w (n2 w) sClass then (if n3 w < w.length then n3 w + 1 else n3 w) else n3 w
def dNew (w : List Str) : TDev := ⟨w.getD 1 [], (number (w.getD 3 []) 0 4096).1, opt w 4 sRanges, opt w (n1 w) sVol, dCls w⟩
def pDev (t : Topo) (told : Bool) (w : List Str) : LineR :=
  if ((decide ((w.length : Int) < 4) || !formB (w.take 4) fDev) || !vname (w.getD 1 [])) || !digitsB (w.getD 3 []) then (4, t, told) else
  if opt w (n2 w) sClass && !vname (dCls w) then (4, t, told) else if decide ((dAt w : Int) < w.length) then (4, t, told) else
  if !(number (w.getD 3 []) 0 4096).2 then (2, t, told) else if decide (tDevice t (w.getD 1 []) ≥ 0) then (6, t, told) else if decide ((t.devs.length : Int) ≥ 12) then (3, t, told) else
  (0, { t with devs := t.devs ++ [dNew w] }, told)
theorem lt4 {w : List Str} (h : decide (((w.map PV.str).length : Int) < 4) = false) : 4 ≤ w.length := by
  simp at h; omega
theorem c61 (t : Topo) (ht : TOk t) (told : Bool) (c : Caps) (w : List Str) (hw : WOk w) : PCalls Tryz.prog Gl 61 [.ptr 0 0, .sl (w.map .str)] (pst t told c) fun r s => LinePost (pDev t told w) r s := by
  refine PCalls.of hT Tryz.func61 rfl 5 (Nat.le_refl _) fun B hD => ?_
  refine pw_norm rfl ?_
  have hwl := hw.len
  unfold Small at hwl
  (refine zGo ?_)
  (refine pl_or 6 12 18 (!formB (w.take 4) fDev) rfl rfl rfl (fun hb => ?_) (fun hb => ?_) ?_; (focus ((refine zNp ?_); (refine zGo ?_); exact ⟨by (exact zLe), StLe.refl _⟩)); (focus ((refine zNp ?_); (refine zGo ?_); have hlen : 4 ≤ w.length := lt4 hb; (refine pl_on rfl rfl (op_of (v_takeM (m := 4) hT rfl rfl rfl rfl hlen (fun _ => rfl)) ?_); (refine zNp ?_)); (refine zGo ?_); (refine pl_on rfl rfl (op_litF hT rfl rfl rfl rfl rfl (by decide) rfl rfl rfl rfl ?_); (refine zNp ?_)); (refine pl_on rfl rfl (op_fun (c99 (w.take 4) fDev (by unfold Small; simp; omega) (by decide)) rfl rfl e99 zLe rfl (fun r hr => ?_)); subst hr; refine ⟨rfl, ?_⟩; (refine zNp ?_)); (refine zGo ?_); exact ⟨by (exact zLe), StLe.refl _⟩)); (refine zNp ?_); (refine zGo ?_))
  (refine pl_or 6 19 25 (!vname (w.getD 1 [])) rfl rfl rfl (fun hb => ?_) (fun hb => ?_) ?_; (focus ((refine zNp ?_); (refine zGo ?_); exact ⟨by (exact zLe), StLe.refl _⟩)); (focus ((refine zNp ?_); (refine zGo ?_); have hlen : 4 ≤ w.length := lt4 (Bool.or_eq_false_iff.1 hb).1; (refine pl_on rfl rfl (op_of (v_index (p := .str (w.getD 1 [])) hT rfl rfl rfl rfl (by omega) (str_at w 1 (by omega)) rfl) ?_); (refine zNp ?_)); (refine zGo ?_); (refine pl_on rfl rfl (op_fun (c85 (w.getD 1 [])) rfl rfl e85 zLe rfl (fun r hr => ?_)); subst hr; refine ⟨rfl, ?_⟩; (refine zNp ?_)); (refine zGo ?_); exact ⟨by (exact zLe), StLe.refl _⟩)); (refine zNp ?_); (refine zGo ?_))
  (refine pl_or 6 26 32 (!digitsB (w.getD 3 [])) rfl rfl rfl (fun hb => ?_) (fun hb => ?_) ?_; (focus ((refine zNp ?_); (refine zGo ?_); exact ⟨by (exact zLe), StLe.refl _⟩)); (focus ((refine zNp ?_); (refine zGo ?_); have hlen : 4 ≤ w.length := lt4 (Bool.or_eq_false_iff.1 (Bool.or_eq_false_iff.1 hb).1).1; (refine pl_on rfl rfl (op_of (v_index (p := .str (w.getD 3 [])) hT rfl rfl rfl rfl (by omega) (str_at w 3 (by omega)) rfl) ?_); (refine zNp ?_)); (refine zGo ?_); (refine pl_on rfl rfl (op_fun (c100 (w.getD 3 []) (hw.at 3)) rfl rfl e100 zLe rfl (fun r hr => ?_)); subst hr; refine ⟨rfl, ?_⟩; (refine zNp ?_)); (refine zGo ?_); exact ⟨by (exact zLe), StLe.refl _⟩)); (refine zNp ?_); (refine zGo ?_))
  refine pw_cond rfl (fun h => ?_) (fun h => ?_)
  · have e : pDev t told w = (4, t, told) := by rw [List.length_map] at h; simp only [pDev, h, if_true]
    rw [e]
    (refine zGo ?_)
    exact ⟨_, _, _, rfl, ⟨c, rfl, rfl⟩, .inr (.inl rfl), ⟨.inr (.inl rfl), .inr (.inl rfl), .inr (.inl rfl), .inr (.inl rfl), .inr (.inl rfl), trivial⟩, rfl, rfl⟩
  have hlen : 4 ≤ w.length := lt4 (Bool.or_eq_false_iff.1 (Bool.or_eq_false_iff.1 (Bool.or_eq_false_iff.1 h).1).1).1
  have e : pDev t told w = if opt w (n2 w) sClass && !vname (dCls w) then (4, t, told) else if decide ((dAt w : Int) < w.length) then (4, t, told) else
    if !(number (w.getD 3 []) 0 4096).2 then (2, t, told) else if decide (tDevice t (w.getD 1 []) ≥ 0) then (6, t, told) else if decide ((t.devs.length : Int) ≥ 12) then (3, t, told) else
    (0, { t with devs := t.devs ++ [dNew w] }, told) := by rw [List.length_map] at h; simp only [pDev, h, Bool.false_eq_true, if_false]
  rw [e]
  clear e
  have hn1 : n1 w ≤ w.length := optN_le (by omega)
  have hn2 : n2 w ≤ w.length := optN_le hn1
  have hn3 : n3 w ≤ w.length := optN_le hn2
  (refine zGo ?_)
  (refine pl_op rfl (op_of (v_index (p := .str (w.getD 1 [])) hT rfl rfl rfl rfl (by omega) (str_at w 1 (by omega)) rfl) ?_); (refine zNp ?_))
  (refine zGo ?_)
  (refine pl_op rfl (op_call [6] rfl rfl e101 (by decide) rfl rfl rfl zLe zLes (c101' w 4 sRanges hw.len (by omega)) (fun r s hq => ?_)); obtain ⟨rfl, rfl⟩ := hq; refine ⟨rfl, rfl, ?_⟩; (refine zNp ?_))
  (refine zGo ?_)
  (refine pl_op rfl (op_call [6] rfl rfl e101 (by decide) rfl rfl rfl zLe zLes (c101' w (n1 w) sVol hw.len hn1) (fun r s hq => ?_)); obtain ⟨rfl, rfl⟩ := hq; refine ⟨rfl, rfl, ?_⟩; (refine zNp ?_))
  (refine zGo ?_)
  (refine pl_op rfl (op_call [6] rfl rfl e101 (by decide) rfl rfl rfl zLe zLes (c101' w (n2 w) sClass hw.len hn2) (fun r s hq => ?_)); obtain ⟨rfl, rfl⟩ := hq; refine ⟨rfl, rfl, ?_⟩; (refine zNp ?_))
  (refine zGo ?_)
  refine pw_join hD (((opt w (n2 w) sClass && !vname (dCls w)) = false)) [] [pBox t told c, .arr 5 (t.devs.map eDev) c.1, .arr 3 (t.links.map eLink) c.2.1, .arr 6 (t.edges.map eEdge) c.2.2.1, .arr 2 (t.pools.map ePfx) c.2.2.2, .box [.str (w.getD 1 []), .int .i64 0, .bool (opt w 4 sRanges), .bool (opt w (n1 w) sVol), .str (dCls w)], .box [.sl (w.map .str), .int .i64 (dAt w : Nat)]] 7 rfl rfl rfl rfl ?_ (fun hφ => ?_)
  · refine pw_cond rfl (fun h2 => ?_) (fun h2 => ?_)
    · have e1 : dCls w = w.getD (n3 w) [] := by simp only [dCls, h2, if_true]
      have e2 : dAt w = (if n3 w < w.length then n3 w + 1 else n3 w) := by simp only [dAt, h2, if_true]
      rw [e1, e2, h2, Bool.true_and]
      (refine zGo ?_)
      (refine pl_op rfl (op_call [6] rfl rfl e102 (by decide) rfl rfl rfl zLe zLes (c102 w (n3 w) hw.len hn3) (fun r s hq => ?_)); obtain ⟨rfl, rfl⟩ := hq; refine ⟨rfl, rfl, ?_⟩; (refine zNp ?_))
      (refine zGo ?_)
      (refine pl_op rfl (op_fun (c85 (w.getD (n3 w) [])) rfl rfl e85 zLe rfl (fun r hr => ?_)); subst hr; refine ⟨rfl, ?_⟩; (refine zNp ?_))
      (refine zGo ?_)
      refine pw_cond rfl (fun h3 => ?_) (fun h3 => ?_)
      · rw [if_pos h3]
        (refine zGo ?_)
        exact ⟨_, _, _, rfl, ⟨c, rfl, rfl⟩, .inr (.inl rfl), ⟨.inr (.inl rfl), .inr (.inl rfl), .inr (.inl rfl), .inr (.inl rfl), .inr (.inl rfl), trivial⟩, rfl, rfl⟩
      · (refine zGo ?_)
        exact ⟨h3, by (exact zLe), by (exact zLes)⟩
    · have e1 : dCls w = [] := by simp only [dCls, h2, Bool.false_eq_true, if_false]
      have e2 : dAt w = n3 w := by simp only [dAt, h2, Bool.false_eq_true, if_false]
      rw [e1, e2, h2]
      (refine zGo ?_)
      exact ⟨rfl, by (exact zLe), by (exact zLes)⟩
  rw [hφ, if_neg Bool.false_ne_true]
  (refine zGo ?_)
  refine pw_cond rfl (fun h2 => ?_) (fun h2 => ?_)
  · rw [if_pos (by rw [List.length_map] at h2; exact h2)]
    (refine zGo ?_)
    exact ⟨_, _, _, rfl, ⟨c, rfl, rfl⟩, .inr (.inl rfl), ⟨.inr (.inl rfl), .inr (.inl rfl), .inr (.inl rfl), .inr (.inl rfl), .inr (.inl rfl), trivial⟩, rfl, rfl⟩
  rw [if_neg (by rw [List.length_map] at h2; rw [h2]; exact Bool.false_ne_true)]
  (refine zGo ?_)
  (refine pl_op rfl (op_of (v_index (p := .str (w.getD 3 [])) hT rfl rfl rfl rfl (by omega) (str_at w 3 (by omega)) rfl) ?_); (refine zNp ?_))
  (refine zGo ?_)
  (refine pl_op rfl (op_fun (c103 (w.getD 3 []) 0 4096 (hw.small 3) (by omega)) rfl rfl e103 zLe rfl (fun r hr => ?_)); subst hr; refine ⟨rfl, ?_⟩; (refine zNp ?_))
  (refine zGo ?_)
  refine pw_cond rfl (fun h3 => ?_) (fun h3 => ?_)
  · rw [if_pos h3]
    (refine zGo ?_)
    exact ⟨_, _, _, rfl, ⟨c, rfl, rfl⟩, .inr (.inl rfl), ⟨.inr (.inl rfl), .inr (.inl rfl), .inr (.inl rfl), .inr (.inl rfl), .inr (.inl rfl), trivial⟩, rfl, rfl⟩
  rw [if_neg (by rw [h3]; exact Bool.false_ne_true)]
  (refine zGo ?_)
  refine pw_draw [(0, true), (1, true), (2, true), (3, true), (4, true), (5, true), (6, false), (7, true), (8, true)] hmix (by decide +kernel) ?_
  (refine zDgo ?_)
  (refine po_step rfl rfl (op_lend0 (c41 t (w.getD 1 []) ht.devs) rfl rfl e41 zLef rfl (fun r hr => ?_)); subst hr; refine ⟨rfl, zLok, ?_⟩; refine zDn ?_)
  (refine zDgo ?_)
  (refine zGo ?_)
  refine pw_cond rfl (fun h4 => ?_) (fun h4 => ?_)
  · rw [if_pos h4]
    (refine zGo ?_)
    exact ⟨_, _, _, rfl, ⟨c, rfl, rfl⟩, .inr (.inl rfl), ⟨.inr (.inl rfl), .inr (.inl rfl), .inr (.inl rfl), .inr (.inl rfl), .inr (.inl rfl), trivial⟩, rfl, rfl⟩
  rw [if_neg (by rw [h4]; exact Bool.false_ne_true)]
  (refine zGo ?_)
  refine pw_cond rfl (fun h5 => ?_) (fun h5 => ?_)
  · rw [if_pos (by rw [List.length_map] at h5; exact h5)]
    (refine zGo ?_)
    exact ⟨_, _, _, rfl, ⟨c, rfl, rfl⟩, .inr (.inl rfl), ⟨.inr (.inl rfl), .inr (.inl rfl), .inr (.inl rfl), .inr (.inl rfl), .inr (.inl rfl), trivial⟩, rfl, rfl⟩
  rw [if_neg (by rw [List.length_map] at h5; rw [h5]; exact Bool.false_ne_true)]
  have hpl := ht.devs
  unfold Small at hpl
  (refine zGo ?_)
  refine pw_draw [(0, true), (1, true), (2, true), (3, true), (4, true), (5, true), (6, true), (7, true), (8, false), (9, true), (10, true), (11, true), (12, false)] hmix (by decide +kernel) ?_
  (refine zDgo ?_)
  (refine po_make rfl rfl (fun st' K hK => op_litF hT rfl rfl rfl rfl rfl (by decide) rfl rfl rfl rfl hK) ?_; refine zDn ?_)
  (refine po_step rfl rfl (op_append (b := 48) hT rfl rfl rfl rfl rfl rfl (.inl (Nat.zero_lt_succ _)) rfl rfl (by simp; omega) (fun cap' _ hcap => ⟨zLok, ?_⟩)); refine zDn ?_)
  (refine zDgo ?_)
  (refine pw_mv 1 7 hD rfl rfl rfl rfl rfl ?_; refine pw_norm rfl ?_)
  (refine pw_trim 7 hD rfl rfl ?_; refine pw_norm rfl ?_)
  (refine zGo ?_)
  refine ⟨_, _, pst _ told (cap', c.2), rfl, ⟨_, rfl, rfl⟩, .inr (.inl rfl), ?_, rfl, rfl⟩
  simp only [pst, pBox, List.map_append, List.length_append]
  exact ⟨.inr (.inl rfl), .inr (.inl rfl), .inr (.inl rfl), .inr (.inl rfl), .inr (.inl rfl), trivial⟩
end Go.Proofs.YtdehdgbdcfkpbaaGreatDoor
