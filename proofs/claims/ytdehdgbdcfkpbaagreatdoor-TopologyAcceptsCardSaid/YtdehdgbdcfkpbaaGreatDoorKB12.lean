/-
  Contracts of functions, walked over pure values.
-/
import Derived.Test.YtdehdgbdcfkpbaaGreatDoorKB8
import Derived.Test.YtdehdgbdcfkpbaaGreatDoorKB10
import Derived.Test.YtdehdgbdcfkpbaaGreatDoorKLib
import Derived.Test.YtdehdgbdcfkpbaaGreatDoorKA5
namespace Go.Proofs.YtdehdgbdcfkpbaaGreatDoor
open Go Go.Pw
variable {Gl : Glob}
attribute [local irreducible] PW PWL OpP PCalls PWO
set_option maxHeartbeats 20000000
set_option maxRecDepth 100000

def fSub : List Str := [[101, 100, 103, 101], [78, 65, 77, 69], [97, 116], [68, 69, 86, 73, 67, 69], [122, 111, 110, 101], [90, 79, 78, 69], [115, 117, 98, 110, 101, 116], [80, 82, 69, 70, 73, 88]]
def fSize : List Str := [[101, 100, 103, 101], [78, 65, 77, 69], [97, 116], [68, 69, 86, 73, 67, 69], [122, 111, 110, 101], [90, 79, 78, 69], [115, 105, 122, 101], [78]]
def ePf (w : List Str) : TPfx := if formB w fSub then (pfxParse (w.getD 7 [])).1 else ⟨0, (number (w.getD 7 []) 1 32).1⟩
def eIn (w : List Str) : Bool := if formB w fSub then decide ((pfxParse (w.getD 7 [])).1.bits > 0) else (number (w.getD 7 []) 1 32).2
def eBad (w : List Str) : Bool := if formB w fSub then !(pfxParse (w.getD 7 [])).2 else !digitsB (w.getD 7 [])
def eNew (t : Topo) (w : List Str) : TEdge := ⟨w.getD 1 [], tDevice t (w.getD 3 []), w.getD 5 [], ePf w, formB w fSize⟩
def pEdge (t : Topo) (told : Bool) (w : List Str) : LineR :=
  if ((!formB w fSub && !formB w fSize) || !vname (w.getD 1 [])) || !vname (w.getD 5 []) then (4, t, told) else if eBad w then (4, t, told) else if !eIn w then (2, t, told) else
  if decide (tDevice t (w.getD 3 []) < 0) then (5, t, told) else if decide (tEdge t (w.getD 1 []) ≥ 0) then (6, t, told) else
  if formB w fSub && t.edges.any (fun o => !o.planned && pover o.pfx (ePf w)) then (7, t, told) else if decide ((t.edges.length : Int) ≥ 12) then (3, t, told) else
  (0, { t with edges := t.edges ++ [eNew t w] }, told)
theorem sub_len {w : List Str} (h : (!formB w fSub && !formB w fSize) = false) : w.length = 8 := by
  rcases Bool.and_eq_false_iff.1 h with h | h
  · exact formB_len (p := fSub) (by simpa using h)
  · exact formB_len (p := fSize) (by simpa using h)
theorem c63 (hG : GM Gl) (t : Topo) (ht : TOk t) (told : Bool) (c : Caps) (w : List Str) (hw : WOk w) : PCalls Tryz.prog Gl 63 [.ptr 0 0, .sl (w.map .str)] (pst t told c) fun r s => LinePost (pEdge t told w) r s := by
  refine PCalls.of hT Tryz.func63 rfl 5 (Nat.le_refl _) fun B hD => ?_
  refine pw_norm rfl ?_
  have hwl := hw.len
  unfold Small at hwl
  (refine zGo ?_)
  (refine pl_op rfl (op_fun (c99 w fSub hw.len (by decide)) rfl rfl e99 zLe rfl (fun r hr => ?_)); subst hr; refine ⟨rfl, ?_⟩; (refine zNp ?_))
  (refine zGo ?_)
  (refine pl_op rfl (op_fun (c99 w fSize hw.len (by decide)) rfl rfl e99 zLe rfl (fun r hr => ?_)); subst hr; refine ⟨rfl, ?_⟩; (refine zNp ?_))
  (refine zGo ?_)
  (refine pl_and 3 20 23 (!formB w fSize) rfl rfl rfl (fun hb => ?_) (fun hb => ?_) ?_; (focus ((refine zNp ?_); (refine zGo ?_); exact ⟨by (exact zLe), StLe.refl _⟩)); (focus ((refine zNp ?_); (refine zGo ?_); exact ⟨by (exact zLe), StLe.refl _⟩)); (refine zNp ?_); (refine zGo ?_))
  (refine pl_or 6 24 30 (!vname (w.getD 1 [])) rfl rfl rfl (fun hb => ?_) (fun hb => ?_) ?_; (focus ((refine zNp ?_); (refine zGo ?_); exact ⟨by (exact zLe), StLe.refl _⟩)); (focus ((refine zNp ?_); (refine zGo ?_); have hlen := sub_len hb; (refine pl_on rfl rfl (op_of (v_index (p := .str (w.getD 1 [])) hT rfl rfl rfl rfl (by omega) (str_at w 1 (by omega)) rfl) ?_); (refine zNp ?_)); (refine zGo ?_); (refine pl_on rfl rfl (op_fun (c85 (w.getD 1 [])) rfl rfl e85 zLe rfl (fun r hr => ?_)); subst hr; refine ⟨rfl, ?_⟩; (refine zNp ?_)); (refine zGo ?_); exact ⟨by (exact zLe), StLe.refl _⟩)); (refine zNp ?_); (refine zGo ?_))
  (refine pl_or 6 31 37 (!vname (w.getD 5 [])) rfl rfl rfl (fun hb => ?_) (fun hb => ?_) ?_; (focus ((refine zNp ?_); (refine zGo ?_); exact ⟨by (exact zLe), StLe.refl _⟩)); (focus ((refine zNp ?_); (refine zGo ?_); have hlen := sub_len (Bool.or_eq_false_iff.1 hb).1; (refine pl_on rfl rfl (op_of (v_index (p := .str (w.getD 5 [])) hT rfl rfl rfl rfl (by omega) (str_at w 5 (by omega)) rfl) ?_); (refine zNp ?_)); (refine zGo ?_); (refine pl_on rfl rfl (op_fun (c85 (w.getD 5 [])) rfl rfl e85 zLe rfl (fun r hr => ?_)); subst hr; refine ⟨rfl, ?_⟩; (refine zNp ?_)); (refine zGo ?_); exact ⟨by (exact zLe), StLe.refl _⟩)); (refine zNp ?_); (refine zGo ?_))
  refine pw_cond rfl (fun h => ?_) (fun h => ?_)
  · have e : pEdge t told w = (4, t, told) := by simp only [pEdge, h, if_true]
    rw [e]
    (refine zGo ?_)
    exact ⟨_, _, _, rfl, ⟨c, rfl, rfl⟩, .inr (.inl rfl), ⟨.inr (.inl rfl), .inr (.inl rfl), .inr (.inl rfl), .inr (.inl rfl), .inr (.inl rfl), trivial⟩, rfl, rfl⟩
  have hlen : w.length = 8 := sub_len (Bool.or_eq_false_iff.1 (Bool.or_eq_false_iff.1 h).1).1
  rw [pEdge, if_neg (by rw [h]; exact Bool.false_ne_true)]
  (refine zGo ?_)
  refine pw_join hD True [(7, .ptr 5 0)] [pBox t told c, .arr 5 (t.devs.map eDev) c.1, .arr 3 (t.links.map eLink) c.2.1, .arr 6 (t.edges.map eEdge) c.2.2.1, .arr 2 (t.pools.map ePfx) c.2.2.2, .box [.str (w.getD 1 []), .int .i64 (tDevice t (w.getD 3 [])), .str (w.getD 5 []), .int .u32 0, .int .i64 0, .bool (formB w fSize)]] 6 rfl rfl rfl rfl ?_ (fun _ => ?_)
  · refine pw_drawF [(0, true), (1, true), (2, true), (3, true), (4, true), (5, true), (6, true), (7, true), (8, true), (9, true), (11, true), (12, true), (13, true), (14, true)] 10 [(15, true), (16, false), (17, false)] 16 [(10, false), (15, true), (17, false)] hmix (by decide +kernel) ?_
    (refine zDgo ?_)
    (refine po_val rfl rfl (v_index (p := .str (w.getD 1 [])) hT rfl rfl rfl rfl (by omega) (str_at w 1 (by omega)) rfl) ?_; refine zDn ?_)
    (refine zDgo ?_)
    (refine po_val rfl rfl (v_index (p := .str (w.getD 3 [])) hT rfl rfl rfl rfl (by omega) (str_at w 3 (by omega)) rfl) ?_; refine zDn ?_)
    (refine zDgo ?_)
    (refine po_val rfl rfl (v_index (p := .str (w.getD 5 [])) hT rfl rfl rfl rfl (by omega) (str_at w 5 (by omega)) rfl) ?_; refine zDn ?_)
    (refine zDgo ?_)
    refine ⟨?_, ?_⟩
    · (refine po_step rfl rfl (op_lend0 (c41 t (w.getD 3 []) ht.devs) rfl rfl e41 zLef rfl (fun r hr => ?_)); subst hr; refine ⟨rfl, zLok, ?_⟩; refine zDn ?_)
      (refine zDgo ?_)
      exact ⟨trivial, by (exact zLe), by (exact zLes)⟩
    · (refine zDgo ?_)
      (refine po_step rfl rfl (op_lend0 (c41 t (w.getD 3 []) ht.devs) rfl rfl e41 zLef rfl (fun r hr => ?_)); subst hr; refine ⟨rfl, zLok, ?_⟩; refine zDn ?_)
      (refine zDgo ?_)
      exact ⟨trivial, by (exact zLe), by (exact zLes)⟩
  (refine zGo ?_)
  refine pw_join hD (eBad w = false) [(8, .bool (eIn w))] [pBox t told c, .arr 5 (t.devs.map eDev) c.1, .arr 3 (t.links.map eLink) c.2.1, .arr 6 (t.edges.map eEdge) c.2.2.1, .arr 2 (t.pools.map ePfx) c.2.2.2, .box [.str (w.getD 1 []), .int .i64 (tDevice t (w.getD 3 [])), .str (w.getD 5 []), .int .u32 (ePf w).addr, .int .i64 (ePf w).bits, .bool (formB w fSize)]] 6 rfl rfl rfl rfl ?_ (fun hφ => ?_)
  · refine pw_cond rfl (fun h2 => ?_) (fun h2 => ?_)
    · have e1 : ePf w = (pfxParse (w.getD 7 [])).1 := by simp only [ePf, h2, if_true]
      have e2 : eIn w = decide ((pfxParse (w.getD 7 [])).1.bits > 0) := by simp only [eIn, h2, if_true]
      have e3 : eBad w = !(pfxParse (w.getD 7 [])).2 := by simp only [eBad, h2, if_true]
      rw [e1, e2, e3]
      (refine zGo ?_)
      (refine pl_op rfl (op_of (v_index (p := .str (w.getD 7 [])) hT rfl rfl rfl rfl (by omega) (str_at w 7 (by omega)) rfl) ?_); (refine zNp ?_))
      (refine zGo ?_)
      (refine pl_op rfl (op_fun (c104 hG (w.getD 7 []) (hw.at 7)) rfl rfl e104 zLe rfl (fun r hr => ?_)); subst hr; refine ⟨rfl, ?_⟩; (refine zNp ?_))
      (refine zGo ?_)
      refine pw_cond rfl (fun h3 => ?_) (fun h3 => ?_)
      · rw [if_pos h3]
        (refine zGo ?_)
        exact ⟨_, _, _, rfl, ⟨c, rfl, rfl⟩, .inr (.inl rfl), ⟨.inr (.inl rfl), .inr (.inl rfl), .inr (.inl rfl), .inr (.inl rfl), .inr (.inl rfl), trivial⟩, rfl, rfl⟩
      · (refine zGo ?_)
        refine pw_draw [(0, true), (1, true), (2, true), (3, true), (4, true), (5, false), (6, true)] hmix (by decide +kernel) ?_
        (refine zDgo ?_)
        (refine zGo ?_)
        exact ⟨h3, by (exact zLe), by (exact zLes)⟩
    · have e1 : ePf w = ⟨0, (number (w.getD 7 []) 1 32).1⟩ := by simp only [ePf, h2, Bool.false_eq_true, if_false]
      have e2 : eIn w = (number (w.getD 7 []) 1 32).2 := by simp only [eIn, h2, Bool.false_eq_true, if_false]
      have e3 : eBad w = !digitsB (w.getD 7 []) := by simp only [eBad, h2, Bool.false_eq_true, if_false]
      rw [e1, e2, e3]
      (refine zGo ?_)
      (refine pl_op rfl (op_of (v_index (p := .str (w.getD 7 [])) hT rfl rfl rfl rfl (by omega) (str_at w 7 (by omega)) rfl) ?_); (refine zNp ?_))
      (refine zGo ?_)
      (refine pl_op rfl (op_fun (c100 (w.getD 7 []) (hw.at 7)) rfl rfl e100 zLe rfl (fun r hr => ?_)); subst hr; refine ⟨rfl, ?_⟩; (refine zNp ?_))
      (refine zGo ?_)
      refine pw_cond rfl (fun h3 => ?_) (fun h3 => ?_)
      · rw [if_pos h3]
        (refine zGo ?_)
        exact ⟨_, _, _, rfl, ⟨c, rfl, rfl⟩, .inr (.inl rfl), ⟨.inr (.inl rfl), .inr (.inl rfl), .inr (.inl rfl), .inr (.inl rfl), .inr (.inl rfl), trivial⟩, rfl, rfl⟩
      · (refine zGo ?_)
        (refine pl_op rfl (op_of (v_index (p := .str (w.getD 7 [])) hT rfl rfl rfl rfl (by omega) (str_at w 7 (by omega)) rfl) ?_); (refine zNp ?_))
        (refine zGo ?_)
        (refine pl_op rfl (op_fun (c103 (w.getD 7 []) 1 32 (hw.small 7) (by omega)) rfl rfl e103 zLe rfl (fun r hr => ?_)); subst hr; refine ⟨rfl, ?_⟩; (refine zNp ?_))
        (refine zGo ?_)
        exact ⟨h3, by (exact zLe), by (exact zLes)⟩
  rw [hφ, if_neg Bool.false_ne_true]
  (refine zGo ?_)
  refine pw_cond rfl (fun h2 => ?_) (fun h2 => ?_)
  · rw [if_pos h2]
    (refine zGo ?_)
    exact ⟨_, _, _, rfl, ⟨c, rfl, rfl⟩, .inr (.inl rfl), ⟨.inr (.inl rfl), .inr (.inl rfl), .inr (.inl rfl), .inr (.inl rfl), .inr (.inl rfl), trivial⟩, rfl, rfl⟩
  rw [if_neg (by rw [h2]; exact Bool.false_ne_true)]
  (refine zGo ?_)
  refine pw_cond rfl (fun h3 => ?_) (fun h3 => ?_)
  · rw [if_pos h3]
    (refine zGo ?_)
    exact ⟨_, _, _, rfl, ⟨c, rfl, rfl⟩, .inr (.inl rfl), ⟨.inr (.inl rfl), .inr (.inl rfl), .inr (.inl rfl), .inr (.inl rfl), .inr (.inl rfl), trivial⟩, rfl, rfl⟩
  rw [if_neg (by rw [h3]; exact Bool.false_ne_true)]
  (refine zGo ?_)
  refine pw_draw [(0, true), (1, true), (2, true), (3, true), (4, true), (5, true), (6, false), (7, true), (8, true)] hmix (by decide +kernel) ?_
  (refine zDgo ?_)
  (refine po_step rfl rfl (op_lend0 (c43 t (w.getD 1 []) ht.edges) rfl rfl e43 zLef rfl (fun r hr => ?_)); subst hr; refine ⟨rfl, zLok, ?_⟩; refine zDn ?_)
  (refine zDgo ?_)
  (refine zGo ?_)
  refine pw_cond rfl (fun h4 => ?_) (fun h4 => ?_)
  · rw [if_pos h4]
    (refine zGo ?_)
    exact ⟨_, _, _, rfl, ⟨c, rfl, rfl⟩, .inr (.inl rfl), ⟨.inr (.inl rfl), .inr (.inl rfl), .inr (.inl rfl), .inr (.inl rfl), .inr (.inl rfl), trivial⟩, rfl, rfl⟩
  rw [if_neg (by rw [h4]; exact Bool.false_ne_true)]
  (refine zGo ?_)
  (refine pl_and 8 102 110 (t.edges.any (fun o => !o.planned && pover o.pfx (ePf w))) rfl rfl rfl (fun hb => ?_) (fun hb => ?_) ?_; (focus ((refine zNp ?_); (refine zGo ?_); (refine pl_on rfl rfl (op_lendF (full' := [.sl (t.edges.map eEdge), .fn 105 [.ptr 5 0]]) 5 [5] rfl (c83 e105 (by rfl) ht.edges fun x _ => c105 (eNew t w) x) rfl rfl e83 (by decide) rfl rfl zLef rfl rfl zLe zLes (fun r s hq => ?_)); obtain ⟨rfl, rfl⟩ := hq; refine ⟨rfl, rfl, ?_⟩; (refine zNp ?_)); (refine zGo ?_); exact ⟨by (exact zLe), StLe.refl _⟩)); (focus ((refine zNp ?_); (refine zGo ?_); exact ⟨by (exact zLe), StLe.refl _⟩)); (refine zNp ?_); (refine zGo ?_))
  refine pw_cond rfl (fun h5 => ?_) (fun h5 => ?_)
  · rw [if_pos h5]
    (refine zGo ?_)
    exact ⟨_, _, _, rfl, ⟨c, rfl, rfl⟩, .inr (.inl rfl), ⟨.inr (.inl rfl), .inr (.inl rfl), .inr (.inl rfl), .inr (.inl rfl), .inr (.inl rfl), trivial⟩, rfl, rfl⟩
  rw [if_neg (by rw [h5]; exact Bool.false_ne_true)]
  (refine zGo ?_)
  refine pw_cond rfl (fun h6 => ?_) (fun h6 => ?_)
  · rw [if_pos (by rw [List.length_map] at h6; exact h6)]
    (refine zGo ?_)
    exact ⟨_, _, _, rfl, ⟨c, rfl, rfl⟩, .inr (.inl rfl), ⟨.inr (.inl rfl), .inr (.inl rfl), .inr (.inl rfl), .inr (.inl rfl), .inr (.inl rfl), trivial⟩, rfl, rfl⟩
  rw [if_neg (by rw [List.length_map] at h6; rw [h6]; exact Bool.false_ne_true)]
  have hpl := ht.edges
  unfold Small at hpl
  (refine zGo ?_)
  refine pw_draw [(0, true), (1, true), (2, true), (3, true), (4, true), (5, true), (6, true), (7, true), (8, false), (9, true), (10, true), (11, true), (12, false)] hmix (by decide +kernel) ?_
  (refine zDgo ?_)
  (refine po_make rfl rfl (fun st' K hK => op_litF hT rfl rfl rfl rfl rfl (by decide) rfl rfl rfl rfl hK) ?_; refine zDn ?_)
  (refine po_step rfl rfl (op_append (b := 64) hT rfl rfl rfl rfl rfl rfl (.inl (Nat.zero_lt_succ _)) rfl rfl (by simp; omega) (fun cap' _ hcap => ⟨zLok, ?_⟩)); refine zDn ?_)
  (refine zDgo ?_)
  (refine pw_mv 3 6 hD rfl rfl rfl rfl rfl ?_; refine pw_norm rfl ?_)
  (refine pw_trim 6 hD rfl rfl ?_; refine pw_norm rfl ?_)
  (refine zGo ?_)
  refine ⟨_, _, pst _ told (c.1, c.2.1, cap', c.2.2.2), rfl, ⟨_, rfl, rfl⟩, .inr (.inl rfl), ?_, rfl, rfl⟩
  simp only [pst, pBox, List.map_append, List.length_append]
  exact ⟨.inr (.inl rfl), .inr (.inl rfl), .inr (.inl rfl), .inr (.inl rfl), .inr (.inl rfl), trivial⟩
end Go.Proofs.YtdehdgbdcfkpbaaGreatDoor
namespace Go.Proofs.YtdehdgbdcfkpbaaGreatDoor
open Go Go.Pw
variable {Gl : Glob}
attribute [local irreducible] PW PWL OpP PCalls PWO
set_option maxHeartbeats 20000000
set_option maxRecDepth 100000

/-! ### topology.Parse -/
def kDev : Str := [100, 101, 118, 105, 99, 101]
def kLink : Str := [108, 105, 110, 107]
def kEdge : Str := [101, 100, 103, 101]
def kPool : Str := [112, 111, 111, 108]
def kTol : Str := [116, 111, 108, 101, 114, 97, 116, 101]
def pLine (t : Topo) (told : Bool) (w : List Str) : LineR :=
  if w.getD 0 [] = kDev then pDev t told w else if w.getD 0 [] = kLink then pLink t told w else if w.getD 0 [] = kEdge then pEdge t told w else if w.getD 0 [] = kPool then pPool t told w else
  if w.getD 0 [] = kTol then pTol t told w else (4, t, told)
def topo0 : Topo := ⟨[], [], [], [], 0⟩
structure TLim (t : Topo) : Prop where
  devs : t.devs.length ≤ 12
  links : t.links.length ≤ 24
  edges : t.edges.length ≤ 12
  pools : t.pools.length ≤ 8
theorem TLim.ok {t : Topo} (h : TLim t) : TOk t := ⟨by have := h.devs; unfold Small; omega, by have := h.links; unfold Small; omega, by have := h.edges; unfold Small; omega, by have := h.pools; unfold Small; omega⟩
theorem pTol_lim {t : Topo} (h : TLim t) (told : Bool) (w : List Str) : TLim (pTol t told w).2.1 := by
  unfold pTol
  split
  · exact h
  · split
    · exact h
    · split
      · exact h
      · exact ⟨h.devs, h.links, h.edges, h.pools⟩
theorem pPool_lim {t : Topo} (h : TLim t) (told : Bool) (w : List Str) : TLim (pPool t told w).2.1 := by
  unfold pPool
  split
  · exact h
  · split
    · exact h
    · split
      · exact h
      · split
        · exact h
        · rename_i h4
          exact ⟨h.devs, h.links, h.edges, by simp at h4 ⊢; omega⟩
theorem pLink_lim {t : Topo} (h : TLim t) (told : Bool) (w : List Str) : TLim (pLink t told w).2.1 := by
  unfold pLink
  split
  · exact h
  · split
    · exact h
    · split
      · exact h
      · split
        · exact h
        · split
          · exact h
          · rename_i h4
            exact ⟨h.devs, by simp at h4 ⊢; omega, h.edges, h.pools⟩
theorem pEdge_lim {t : Topo} (h : TLim t) (told : Bool) (w : List Str) : TLim (pEdge t told w).2.1 := by
  unfold pEdge
  repeat' (split; · exact h)
  rename_i h4
  exact ⟨h.devs, h.links, by simp at h4 ⊢; omega, h.pools⟩
theorem pDev_lim {t : Topo} (h : TLim t) (told : Bool) (w : List Str) : TLim (pDev t told w).2.1 := by
  unfold pDev
  repeat' (split; · exact h)
  rename_i h4
  exact ⟨by simp at h4 ⊢; omega, h.links, h.edges, h.pools⟩
theorem pLine_lim {t : Topo} (h : TLim t) (told : Bool) (w : List Str) : TLim (pLine t told w).2.1 := by
  unfold pLine
  split
  · exact pDev_lim h told w
  · split
    · exact pLink_lim h told w
    · split
      · exact pEdge_lim h told w
      · split
        · exact pPool_lim h told w
        · split
          · exact pTol_lim h told w
          · exact h
/-- The lines, one after another: the error, the number of its line, and the topology. -/
def pRun : List TLine → Topo → Bool → Int × Int × Topo
  | [], t, _ => (0, 0, t)
  | l :: ls, t, told => match (pLine t told l.words).1 != 0 with
    | true => ((pLine t told l.words).1, l.num, topo0)
    | false => pRun ls (pLine t told l.words).2.1 (pLine t told l.words).2.2
/-- topology.Parse: the topology, the line's number, the error. -/
def pEnd (x : Int × Int × Topo) : Topo × Int × Int := if x.1 != 0 then (topo0, x.2.1, x.1) else if x.2.2.devs.length = 0 then (topo0, 0, 19) else (x.2.2, 0, 0)
def tParse (s : Str) : Topo × Int × Int := if (lines s).2.2 != 0 then (topo0, (lines s).2.1, (lines s).2.2) else pEnd (pRun (lines s).1 topo0 false)
/-- What lines are like. -/
structure LOk (l : List TLine) : Prop where
  some : ∀ x ∈ l, 0 < x.words.length
  ok : ∀ x ∈ l, WOk x.words
  few : l.length < 2 ^ 30
end Go.Proofs.YtdehdgbdcfkpbaaGreatDoor
namespace Go.Proofs.YtdehdgbdcfkpbaaGreatDoor
open Go Go.Pw
variable {Gl : Glob}
attribute [local irreducible] PW PWL OpP PCalls PWO
set_option maxHeartbeats 20000000
set_option maxRecDepth 100000

/-! ### topology.Valid, topology.Complete -/
def vDevice (d : TDev) : Bool := ((vname d.name && decide (d.cap ≥ 0)) && decide (d.cap ≤ 4096)) && ((d.cls == []) || vname d.cls)
theorem c40 (d : TDev) : PFun Tryz.prog Gl 40 [eDev d] fun r => r = .bool (vDevice d) := by
  refine PFun.of hT Tryz.func40 rfl fun B hD => ?_
  refine pw_norm rfl ?_
  (refine zGo ?_)
  (refine pl_op rfl (op_fun (c85 d.name) rfl rfl e85 zLe rfl (fun r hr => ?_)); subst hr; refine ⟨rfl, ?_⟩; (refine zNp ?_))
  (refine zGo ?_)
  (refine pl_and 4 6 10 (decide (d.cap ≥ 0)) rfl rfl rfl (fun hb => ?_) (fun hb => ?_) ?_; (focus ((refine zNp ?_); (refine zGo ?_); exact ⟨by (exact zLe), StLe.refl _⟩)); (focus ((refine zNp ?_); (refine zGo ?_); exact ⟨by (exact zLe), StLe.refl _⟩)); (refine zNp ?_); (refine zGo ?_))
  (refine pl_and 4 11 15 (decide (d.cap ≤ 4096)) rfl rfl rfl (fun hb => ?_) (fun hb => ?_) ?_; (focus ((refine zNp ?_); (refine zGo ?_); exact ⟨by (exact zLe), StLe.refl _⟩)); (focus ((refine zNp ?_); (refine zGo ?_); exact ⟨by (exact zLe), StLe.refl _⟩)); (refine zNp ?_); (refine zGo ?_))
  refine pl_and 9 16 25 ((d.cls == []) || vname d.cls) rfl rfl rfl (fun hb => ?_) (fun hb => ?_) ?_
  · refine pl_norm rfl ?_
    (refine zGo ?_)
    (refine pl_or 4 20 24 (vname d.cls) rfl rfl rfl (fun hb => ?_) (fun hb => ?_) ?_; (focus ((refine zNp ?_); (refine zGo ?_); exact ⟨by (exact zLe), StLe.refl _⟩)); (focus ((refine zNp ?_); (refine zGo ?_); (refine pl_on rfl rfl (op_fun (c85 d.cls) rfl rfl e85 zLe rfl (fun r hr => ?_)); subst hr; refine ⟨rfl, ?_⟩; (refine zNp ?_)); (refine zGo ?_); exact ⟨by (exact zLe), StLe.refl _⟩)); (refine zNp ?_); (refine zGo ?_))
    exact ⟨by (exact zLe), StLe.refl _⟩
  · refine pl_norm rfl ?_
    (refine zGo ?_)
    exact ⟨by (exact zLe), StLe.refl _⟩
  refine pl_norm rfl ?_
  (refine zGo ?_)
  refine ret1 _ rfl rfl rfl
def vEdge (t : Topo) (e : TEdge) : Bool :=
  ((((decide (e.dev ≥ 0) && decide (e.dev < t.devs.length)) && (vname e.name && vname e.zone)) && pvalid e.pfx) && decide (e.pfx.bits > 0)) && (!e.planned || (e.pfx.addr == 0))
theorem c42 (t : Topo) (e : TEdge) : PFun Tryz.prog Gl 42 [eTopo t, eEdge e] fun r => r = .bool (vEdge t e) := by
  refine PFun.of hT Tryz.func42 rfl fun B hD => ?_
  refine pw_norm rfl ?_
  (refine zGo ?_)
  (refine pl_and 7 10 17 (decide (e.dev < (t.devs.map eDev).length)) rfl rfl rfl (fun hb => ?_) (fun hb => ?_) ?_; (focus ((refine zNp ?_); (refine zGo ?_); exact ⟨by (exact zLe), StLe.refl _⟩)); (focus ((refine zNp ?_); (refine zGo ?_); exact ⟨by (exact zLe), StLe.refl _⟩)); (refine zNp ?_); (refine zGo ?_))
  (refine pl_op rfl (op_fun (c85 e.name) rfl rfl e85 zLe rfl (fun r hr => ?_)); subst hr; refine ⟨rfl, ?_⟩; (refine zNp ?_))
  (refine zGo ?_)
  (refine pl_and 4 21 25 (vname e.zone) rfl rfl rfl (fun hb => ?_) (fun hb => ?_) ?_; (focus ((refine zNp ?_); (refine zGo ?_); (refine pl_on rfl rfl (op_fun (c85 e.zone) rfl rfl e85 zLe rfl (fun r hr => ?_)); subst hr; refine ⟨rfl, ?_⟩; (refine zNp ?_)); (refine zGo ?_); exact ⟨by (exact zLe), StLe.refl _⟩)); (focus ((refine zNp ?_); (refine zGo ?_); exact ⟨by (exact zLe), StLe.refl _⟩)); (refine zNp ?_); (refine zGo ?_))
  (refine pl_and 2 27 29 (vname e.name && vname e.zone) rfl rfl rfl (fun hb => ?_) (fun hb => ?_) ?_; (focus ((refine zNp ?_); (refine zGo ?_); exact ⟨by (exact zLe), StLe.refl _⟩)); (focus ((refine zNp ?_); (refine zGo ?_); exact ⟨by (exact zLe), StLe.refl _⟩)); (refine zNp ?_); (refine zGo ?_))
  (refine pl_and 4 30 34 (pvalid e.pfx) rfl rfl rfl (fun hb => ?_) (fun hb => ?_) ?_; (focus ((refine zNp ?_); (refine zGo ?_); (refine pl_on rfl rfl (op_fun (c45 e.pfx) rfl rfl e45 zLe rfl (fun r hr => ?_)); subst hr; refine ⟨rfl, ?_⟩; (refine zNp ?_)); (refine zGo ?_); exact ⟨by (exact zLe), StLe.refl _⟩)); (focus ((refine zNp ?_); (refine zGo ?_); exact ⟨by (exact zLe), StLe.refl _⟩)); (refine zNp ?_); (refine zGo ?_))
  (refine pl_and 5 35 40 (decide (e.pfx.bits > 0)) rfl rfl rfl (fun hb => ?_) (fun hb => ?_) ?_; (focus ((refine zNp ?_); (refine zGo ?_); exact ⟨by (exact zLe), StLe.refl _⟩)); (focus ((refine zNp ?_); (refine zGo ?_); exact ⟨by (exact zLe), StLe.refl _⟩)); (refine zNp ?_); (refine zGo ?_))
  refine pl_and 10 41 51 (!e.planned || (e.pfx.addr == 0)) rfl rfl rfl (fun hb => ?_) (fun hb => ?_) ?_
  · refine pl_norm rfl ?_
    (refine zGo ?_)
    (refine pl_or 5 45 50 (e.pfx.addr == 0) rfl rfl rfl (fun hb => ?_) (fun hb => ?_) ?_; (focus ((refine zNp ?_); (refine zGo ?_); exact ⟨by (exact zLe), StLe.refl _⟩)); (focus ((refine zNp ?_); (refine zGo ?_); exact ⟨by (exact zLe), StLe.refl _⟩)); (refine zNp ?_); (refine zGo ?_))
    exact ⟨by (exact zLe), StLe.refl _⟩
  · refine pl_norm rfl ?_
    (refine zGo ?_)
    exact ⟨by (exact zLe), StLe.refl _⟩
  refine pl_norm rfl ?_
  (refine zGo ?_)
  refine ret1 _ rfl ?_ rfl
  simp only [vEdge, List.length_map]
end Go.Proofs.YtdehdgbdcfkpbaaGreatDoor
