/-
 The lines of an intent's text, in other orders: each kind of line adds to its own part alone.
 The text of an intent's lines in another order is read as the same intent.
 A generated intent is valid, and its text is short: plain.
-/
import Derived.Test.YtkaobkjcjodffaaGreatDoorBM15
import Derived.Test.YtkaobkjcjodffaaGreatDoorBM11
import Derived.Test.YtkaobkjcjodffaaGreatDoorBP1
import Derived.Test.YtkaobkjcjodffaaGreatDoorBK40
import Derived.Test.YtkaobkjcjodffaaGreatDoorBK28
import Derived.Test.YtkaobkjcjodffaaGreatDoorBE3
import Derived.Test.YtkaobkjcjodffaaGreatDoorBK37
import Derived.Test.YtkaobkjcjodffaaGreatDoorAPwApK
set_option maxHeartbeats 20000000
set_option maxRecDepth 100000
namespace Go.Proofs.YtkaobkjcjodffaaGreatDoor
open Go Go.Pw
section
theorem stmW_hd (s : TStm) : (stmW s).getD 0 [] = if s.permit then [97, 108, 108, 111, 119] else [100, 101, 110, 121] := by
 unfold stmW stmW3 stmW2 stmW1 stmW0
 simp
theorem iW_groups {i : TInt} (h : IV i) (hi : IIn2 i) (j : TInt) (hj : j.groups = []) : iW ((lGroups i).map TLine.words) j = some ⟨i.groups, j.services, j.windows, j.stms, j.pubs, j.hids⟩ := by
 have := iW_part (L := i.groups) (f := defW true) (P := fun l => ⟨l, j.services, j.windows, j.stms, j.pubs, j.hids⟩) (fun k hk => by
   have e := pDef_w (g := true) h.gs hi.gits hk
   have e' : pDef (i.groups.take k) (defW true (i.groups.getD k default)) false = (0, i.groups.take (k + 1)) := e
   unfold iLine
   rw [show (defW true (i.groups.getD k default)).getD 0 [] = [103, 114, 111, 117, 112] from rfl, if_pos rfl]
   rw [e']) i.groups.length 0 (by omega)
 rw [List.take_zero, List.drop_zero, ← hj] at this
 rw [← this]
 simp [lGroups, List.map_map, Function.comp_def, ln]
theorem iW_services {i : TInt} (h : IV i) (hi : IIn2 i) (j : TInt) (hj : j.services = []) : iW ((lServices i).map TLine.words) j = some ⟨j.groups, i.services, j.windows, j.stms, j.pubs, j.hids⟩ := by
 have := iW_part (L := i.services) (f := defW false) (P := fun l => ⟨j.groups, l, j.windows, j.stms, j.pubs, j.hids⟩) (fun k hk => by
   have e := pDef_w (g := false) h.ss hi.sits hk
   have e' : pDef (i.services.take k) (defW false (i.services.getD k default)) true = (0, i.services.take (k + 1)) := e
   unfold iLine
   rw [show (defW false (i.services.getD k default)).getD 0 [] = [115, 101, 114, 118, 105, 99, 101] from rfl, if_neg (by decide), if_pos rfl]
   rw [e']) i.services.length 0 (by omega)
 rw [List.take_zero, List.drop_zero, ← hj] at this
 rw [← this]
 simp [lServices, List.map_map, Function.comp_def, ln]
theorem iW_windows {i : TInt} (h : IV i) (hi : IIn2 i) (j : TInt) (hj : j.windows = []) : iW ((lWindows i).map TLine.words) j = some ⟨j.groups, j.services, i.windows, j.stms, j.pubs, j.hids⟩ := by
 have := iW_part (L := i.windows) (f := winW) (P := fun l => ⟨j.groups, j.services, l, j.stms, j.pubs, j.hids⟩) (fun k hk => by
   have hm := getD_memD hk
   have e := pWin_w hk h.wl (h.wname _ hm) (h.wfirst k hk) (h.wok _ hm) (hi.wins _ hm).2
   unfold iLine
   rw [show (winW (i.windows.getD k default)).getD 0 [] = [119, 105, 110, 100, 111, 119] from rfl, if_neg (by decide), if_neg (by decide), if_pos rfl]
   rw [e]) i.windows.length 0 (by omega)
 rw [List.take_zero, List.drop_zero, ← hj] at this
 rw [← this]
 simp [lWindows, List.map_map, Function.comp_def, ln]
theorem iW_stms {i : TInt} (h : IV i) (_hi : IIn2 i) (j : TInt) (hj : j.stms = []) : iW ((lStms i).map TLine.words) j = some ⟨j.groups, j.services, j.windows, i.stms, j.pubs, j.hids⟩ := by
 have := iW_part (L := i.stms) (f := stmW) (P := fun l => ⟨j.groups, j.services, j.windows, l, j.pubs, j.hids⟩) (fun k hk => by
   have e := pStm_w hk h.sl (h.stms _ (getD_memD hk))
   unfold iLine
   rw [stmW_hd]
   cases hp : (i.stms.getD k default).permit <;> simp only [Bool.false_eq_true, if_false, if_true]
   ·rw [if_neg (by decide), if_neg (by decide), if_neg (by decide), if_neg (by decide), e]
   ·rw [if_neg (by decide), if_neg (by decide), if_neg (by decide), e]) i.stms.length 0 (by omega)
 rw [List.take_zero, List.drop_zero, ← hj] at this
 rw [← this]
 simp [lStms, List.map_map, Function.comp_def, ln]
theorem iW_pubs {i : TInt} (h : IV i) (hi : IIn2 i) (j : TInt) (hj : j.pubs = []) : iW ((lPubs i).map TLine.words) j = some ⟨j.groups, j.services, j.windows, j.stms, i.pubs, j.hids⟩ := by
 have := iW_part (L := i.pubs) (f := pubW) (P := fun l => ⟨j.groups, j.services, j.windows, j.stms, l, j.hids⟩) (fun k hk => by
   have hm := getD_memD hk
   have e := pPub_w hk h.pl (h.pubs _ hm) (hi.pins _ hm)
   unfold iLine
   rw [show (pubW (i.pubs.getD k default)).getD 0 [] = [112, 117, 98, 108, 105, 115, 104] from rfl, if_neg (by decide), if_neg (by decide), if_neg (by decide), if_neg (by decide), if_neg (by decide), if_pos rfl, e]) i.pubs.length 0 (by omega)
 rw [List.take_zero, List.drop_zero, ← hj] at this
 rw [← this]
 simp [lPubs, List.map_map, Function.comp_def, ln]
theorem iW_hids {i : TInt} (h : IV i) (hi : IIn2 i) (j : TInt) (hj : j.hids = []) : iW ((lHids i).map TLine.words) j = some ⟨j.groups, j.services, j.windows, j.stms, j.pubs, i.hids⟩ := by
 have := iW_part (L := i.hids) (f := hidW) (P := fun l => ⟨j.groups, j.services, j.windows, j.stms, j.pubs, l⟩) (fun k hk => by
   have hm := getD_memD hk
   have e := pHid_w hk h.hl (h.hids _ hm) (hi.hins _ hm)
   unfold iLine
   rw [show (hidW (i.hids.getD k default)).getD 0 [] = [104, 105, 100, 101] from rfl, if_neg (by decide), if_neg (by decide), if_neg (by decide), if_neg (by decide), if_neg (by decide), if_neg (by decide), if_pos rfl, e]) i.hids.length 0 (by omega)
 rw [List.take_zero, List.drop_zero, ← hj] at this
 rw [← this]
 simp [lHids, List.map_map, Function.comp_def, ln]
def hasHd (f : Str) (w : List Str) : Bool := decide (w.getD 0 [] = f)
def iBl (i : TInt) (n : Nat) : List (List Str) := match n with
 | 0 => (lGroups i).map TLine.words
 | 1 => (lServices i).map TLine.words
 | 2 => (lWindows i).map TLine.words
 | 3 => (lStms i).map TLine.words
 | 4 => (lPubs i).map TLine.words
 | _ => (lHids i).map TLine.words
theorem iBl_all (i : TInt) : (iLines i).map TLine.words = ((((iBl i 0 ++ iBl i 1) ++ iBl i 2) ++ iBl i 3) ++ iBl i 4) ++ iBl i 5 := by
 simp [iLines, iBl]
theorem iBl_0 {i : TInt} (f : Str) : (iBl i 0).filter (hasHd f) = (if [103, 114, 111, 117, 112] = f then iBl i 0 else []) ∧ (iBl i 0).filter (fun w => !hasHd f w) = (if [103, 114, 111, 117, 112] = f then [] else iBl i 0) := by
 have : ∀ w ∈ iBl i 0, hasHd f w = decide ([103, 114, 111, 117, 112] = f) := fun w hw => by
  simp only [iBl, lGroups, List.mem_map] at hw
  obtain ⟨_, ⟨d, _, rfl⟩, rfl⟩ := hw
  rfl
 by_cases e : [103, 114, 111, 117, 112] = f
 ·rw [if_pos e, if_pos e]
  rw [decide_eq_true e] at this
  exact ⟨List.filter_eq_self.2 this, List.filter_eq_nil_iff.2 fun w hw => by rw [this w hw]; decide⟩
 ·rw [if_neg e, if_neg e]
  rw [decide_eq_false e] at this
  exact ⟨List.filter_eq_nil_iff.2 fun w hw => by rw [this w hw]; decide, List.filter_eq_self.2 fun w hw => by rw [this w hw]; rfl⟩
theorem iBl_1 {i : TInt} (f : Str) : (iBl i 1).filter (hasHd f) = (if [115, 101, 114, 118, 105, 99, 101] = f then iBl i 1 else []) ∧ (iBl i 1).filter (fun w => !hasHd f w) = (if [115, 101, 114, 118, 105, 99, 101] = f then [] else iBl i 1) := by
 have : ∀ w ∈ iBl i 1, hasHd f w = decide ([115, 101, 114, 118, 105, 99, 101] = f) := fun w hw => by
  simp only [iBl, lServices, List.mem_map] at hw
  obtain ⟨_, ⟨d, _, rfl⟩, rfl⟩ := hw
  rfl
 by_cases e : [115, 101, 114, 118, 105, 99, 101] = f
 ·rw [if_pos e, if_pos e]
  rw [decide_eq_true e] at this
  exact ⟨List.filter_eq_self.2 this, List.filter_eq_nil_iff.2 fun w hw => by rw [this w hw]; decide⟩
 ·rw [if_neg e, if_neg e]
  rw [decide_eq_false e] at this
  exact ⟨List.filter_eq_nil_iff.2 fun w hw => by rw [this w hw]; decide, List.filter_eq_self.2 fun w hw => by rw [this w hw]; rfl⟩
theorem iBl_2 {i : TInt} (f : Str) : (iBl i 2).filter (hasHd f) = (if [119, 105, 110, 100, 111, 119] = f then iBl i 2 else []) ∧ (iBl i 2).filter (fun w => !hasHd f w) = (if [119, 105, 110, 100, 111, 119] = f then [] else iBl i 2) := by
 have : ∀ w ∈ iBl i 2, hasHd f w = decide ([119, 105, 110, 100, 111, 119] = f) := fun w hw => by
  simp only [iBl, lWindows, List.mem_map] at hw
  obtain ⟨_, ⟨d, _, rfl⟩, rfl⟩ := hw
  rfl
 by_cases e : [119, 105, 110, 100, 111, 119] = f
 ·rw [if_pos e, if_pos e]
  rw [decide_eq_true e] at this
  exact ⟨List.filter_eq_self.2 this, List.filter_eq_nil_iff.2 fun w hw => by rw [this w hw]; decide⟩
 ·rw [if_neg e, if_neg e]
  rw [decide_eq_false e] at this
  exact ⟨List.filter_eq_nil_iff.2 fun w hw => by rw [this w hw]; decide, List.filter_eq_self.2 fun w hw => by rw [this w hw]; rfl⟩
theorem iBl_3 {i : TInt} {f : Str} (h1 : f ≠ [97, 108, 108, 111, 119]) (h2 : f ≠ [100, 101, 110, 121]) : (iBl i 3).filter (hasHd f) = [] ∧ (iBl i 3).filter (fun w => !hasHd f w) = iBl i 3 := by
 have : ∀ w ∈ iBl i 3, hasHd f w = false := fun w hw => by
  simp only [iBl, lStms, List.mem_map] at hw
  obtain ⟨_, ⟨d, _, rfl⟩, rfl⟩ := hw
  show decide ((stmW d).getD 0 [] = f) = false
  rw [stmW_hd]
  cases d.permit
  ·exact decide_eq_false (Ne.symm h2)
  ·exact decide_eq_false (Ne.symm h1)
 exact ⟨List.filter_eq_nil_iff.2 fun w hw => by rw [this w hw]; decide, List.filter_eq_self.2 fun w hw => by rw [this w hw]; rfl⟩
theorem iBl_4 {i : TInt} (f : Str) : (iBl i 4).filter (hasHd f) = (if [112, 117, 98, 108, 105, 115, 104] = f then iBl i 4 else []) ∧ (iBl i 4).filter (fun w => !hasHd f w) = (if [112, 117, 98, 108, 105, 115, 104] = f then [] else iBl i 4) := by
 have : ∀ w ∈ iBl i 4, hasHd f w = decide ([112, 117, 98, 108, 105, 115, 104] = f) := fun w hw => by
  simp only [iBl, lPubs, List.mem_map] at hw
  obtain ⟨_, ⟨d, _, rfl⟩, rfl⟩ := hw
  rfl
 by_cases e : [112, 117, 98, 108, 105, 115, 104] = f
 ·rw [if_pos e, if_pos e]
  rw [decide_eq_true e] at this
  exact ⟨List.filter_eq_self.2 this, List.filter_eq_nil_iff.2 fun w hw => by rw [this w hw]; decide⟩
 ·rw [if_neg e, if_neg e]
  rw [decide_eq_false e] at this
  exact ⟨List.filter_eq_nil_iff.2 fun w hw => by rw [this w hw]; decide, List.filter_eq_self.2 fun w hw => by rw [this w hw]; rfl⟩
theorem iBl_5 {i : TInt} (f : Str) : (iBl i 5).filter (hasHd f) = (if [104, 105, 100, 101] = f then iBl i 5 else []) ∧ (iBl i 5).filter (fun w => !hasHd f w) = (if [104, 105, 100, 101] = f then [] else iBl i 5) := by
 have : ∀ w ∈ iBl i 5, hasHd f w = decide ([104, 105, 100, 101] = f) := fun w hw => by
  simp only [iBl, lHids, List.mem_map] at hw
  obtain ⟨_, ⟨d, _, rfl⟩, rfl⟩ := hw
  rfl
 by_cases e : [104, 105, 100, 101] = f
 ·rw [if_pos e, if_pos e]
  rw [decide_eq_true e] at this
  exact ⟨List.filter_eq_self.2 this, List.filter_eq_nil_iff.2 fun w hw => by rw [this w hw]; decide⟩
 ·rw [if_neg e, if_neg e]
  rw [decide_eq_false e] at this
  exact ⟨List.filter_eq_nil_iff.2 fun w hw => by rw [this w hw]; decide, List.filter_eq_self.2 fun w hw => by rw [this w hw]; rfl⟩
theorem iOrd {i : TInt} (h : IV i) (hi : IIn2 i) {f : Str} (hf : f ∈ [[104, 105, 100, 101], [119, 105, 110, 100, 111, 119], [103, 114, 111, 117, 112], [112, 117, 98, 108, 105, 115, 104], [115, 101, 114, 118, 105, 99, 101]]) :
  iW (((iLines i).map TLine.words).filter (hasHd f) ++ ((iLines i).map TLine.words).filter (fun w => !hasHd f w)) int0 = some i ∧ iW (((iLines i).map TLine.words).filter (fun w => !hasHd f w) ++ ((iLines i).map TLine.words).filter (hasHd f)) int0 = some i := by
 have B0 : ∀ (j : TInt), j.groups = [] → iW (iBl i 0) j = some ⟨i.groups, j.services, j.windows, j.stms, j.pubs, j.hids⟩ := iW_groups h hi
 have B1 : ∀ (j : TInt), j.services = [] → iW (iBl i 1) j = some ⟨j.groups, i.services, j.windows, j.stms, j.pubs, j.hids⟩ := iW_services h hi
 have B2 : ∀ (j : TInt), j.windows = [] → iW (iBl i 2) j = some ⟨j.groups, j.services, i.windows, j.stms, j.pubs, j.hids⟩ := iW_windows h hi
 have B3 : ∀ (j : TInt), j.stms = [] → iW (iBl i 3) j = some ⟨j.groups, j.services, j.windows, i.stms, j.pubs, j.hids⟩ := iW_stms h hi
 have B4 : ∀ (j : TInt), j.pubs = [] → iW (iBl i 4) j = some ⟨j.groups, j.services, j.windows, j.stms, i.pubs, j.hids⟩ := iW_pubs h hi
 have B5 : ∀ (j : TInt), j.hids = [] → iW (iBl i 5) j = some ⟨j.groups, j.services, j.windows, j.stms, j.pubs, i.hids⟩ := iW_hids h hi
 rw [iBl_all]
 simp only [List.filter_append]
 simp only [List.mem_cons, List.not_mem_nil, or_false] at hf
 rcases hf with rfl | rfl | rfl | rfl | rfl <;>
  rw [(iBl_3 (i := i) (by decide) (by decide)).1, (iBl_3 (i := i) (by decide) (by decide)).2] <;>
  simp only [(iBl_0 _).1, (iBl_0 _).2, (iBl_1 _).1, (iBl_1 _).2, (iBl_2 _).1, (iBl_2 _).2, (iBl_4 _).1, (iBl_4 _).2, (iBl_5 _).1, (iBl_5 _).2] <;>
  simp [iW_append, B0, B1, B2, B3, B4, B5, int0]
theorem textS_words {a b : List TLine} (h : a.map TLine.words = b.map TLine.words) : textS a = textS b := by
 have e : ∀ l : List TLine, textS l = ((l.map TLine.words).map lineS).flatten := fun l => by
  unfold textS; rw [List.map_map]; rfl
 rw [e, e, h]
theorem textS_app (a b : List TLine) : textS (a ++ b) = textS a ++ textS b := by
 unfold textS; rw [List.map_append, List.flatten_append]
theorem textS_filter (p : TLine → Bool) : ∀ l : List TLine, (textS (l.filter p)).length + (textS (l.filter fun x => !p x)).length = (textS l).length
 | [] => rfl
 | x :: l => by
  have h := textS_filter p l
  have e : textS (x :: l) = lineS x.words ++ textS l := rfl
  rw [e, List.length_append]
  cases hp : p x
  ·rw [List.filter_cons_of_neg (by rw [hp]; decide), List.filter_cons_of_pos (by rw [hp]; rfl)]
   have e2 : textS (x :: l.filter fun x => !p x) = lineS x.words ++ textS (l.filter fun x => !p x) := rfl
   rw [e2, List.length_append]
   omega
  ·rw [List.filter_cons_of_pos hp, List.filter_cons_of_neg (by rw [hp]; decide)]
   have e2 : textS (x :: l.filter p) = lineS x.words ++ textS (l.filter p) := rfl
   rw [e2, List.length_append]
   omega
theorem MGood.of {a b : List TLine} (h : MGood b) (hs : ∀ x ∈ a, x.words ∈ b.map TLine.words) : MGood a := by
 have : ∀ x ∈ a, ∃ y ∈ b, y.words = x.words := fun x hx => List.mem_map.1 (hs x hx)
 refine ⟨fun x hx => ?_, fun x hx => ?_, fun x hx => ?_⟩ <;> obtain ⟨y, hy, e⟩ := this x hx <;> rw [← e]
 ·exact h.some y hy
 ·exact h.few y hy
 ·exact h.good y hy
theorem iParse_w {ls : List TLine} {i : TInt} (hg : MGood ls) (hb : (textS ls).length ≤ 16384) (h : iW (ls.map TLine.words) int0 = some i) : iParse (textS ls) = (i, 0, 0) := by
 unfold iParse
 rw [lines_text2 _ hg hb, if_neg (not_not_intro rfl)]
 refine iRun_iW _ _ _ ?_
 rw [numF_words]
 exact h
def hdIs (f : Str) (x : TLine) : Bool := hasHd f x.words
theorem filter_words (p : List Str → Bool) (l : List TLine) : (l.filter fun x => p x.words).map TLine.words = (l.map TLine.words).filter p := by
 rw [List.filter_map]; rfl
theorem iParse_ord {i : TInt} (h : IV i) (hi : IIn2 i) (hb : (textS (iLines i)).length ≤ 16384) {L : List TLine} (hL : L.map TLine.words = (iLines i).map TLine.words) {f : Str} (hf : f ∈ [[104, 105, 100, 101], [119, 105, 110, 100, 111, 119], [103, 114, 111, 117, 112], [112, 117, 98, 108, 105, 115, 104], [115, 101, 114, 118, 105, 99, 101]]) :
  (MGood (L.filter (hdIs f) ++ L.filter fun x => !hdIs f x) ∧ (textS (L.filter (hdIs f) ++ L.filter fun x => !hdIs f x)).length ≤ 16384 ∧ iParse (textS (L.filter (hdIs f) ++ L.filter fun x => !hdIs f x)) = (i, 0, 0)) ∧
  (MGood ((L.filter fun x => !hdIs f x) ++ L.filter (hdIs f)) ∧ (textS ((L.filter fun x => !hdIs f x) ++ L.filter (hdIs f))).length ≤ 16384 ∧ iParse (textS ((L.filter fun x => !hdIs f x) ++ L.filter (hdIs f))) = (i, 0, 0)) := by
 have hm : ∀ x ∈ L, x.words ∈ (iLines i).map TLine.words := fun x hx => by rw [← hL]; exact List.mem_map_of_mem hx
 have hG := iLines_good h hi.toIIn
 have ho := iOrd h hi hf
 have hl := textS_filter (hdIs f) L
 rw [textS_words hL] at hl
 have e1 : (L.filter (hdIs f)).map TLine.words = ((iLines i).map TLine.words).filter (hasHd f) := by rw [← hL]; exact filter_words (hasHd f) L
 have e2 : (L.filter fun x => !hdIs f x).map TLine.words = ((iLines i).map TLine.words).filter (fun w => !hasHd f w) := by rw [← hL]; exact filter_words (fun w => !hasHd f w) L
 refine ⟨?_, ?_⟩
 ·have g : MGood (L.filter (hdIs f) ++ L.filter fun x => !hdIs f x) := hG.of fun x hx => hm x ((List.mem_append.1 hx).elim (fun h => (List.mem_filter.1 h).1) fun h => (List.mem_filter.1 h).1)
  have b : (textS (L.filter (hdIs f) ++ L.filter fun x => !hdIs f x)).length ≤ 16384 := by rw [textS_app, List.length_append]; omega
  exact ⟨g, b, iParse_w g b (by rw [List.map_append, e1, e2]; exact ho.1)⟩
 ·have g : MGood ((L.filter fun x => !hdIs f x) ++ L.filter (hdIs f)) := hG.of fun x hx => hm x ((List.mem_append.1 hx).elim (fun h => (List.mem_filter.1 h).1) fun h => (List.mem_filter.1 h).1)
  have b : (textS ((L.filter fun x => !hdIs f x) ++ L.filter (hdIs f))).length ≤ 16384 := by rw [textS_app, List.length_append]; omega
  exact ⟨g, b, iParse_w g b (by rw [List.map_append, e1, e2]; exact ho.2)⟩
theorem vDefs_of {l : List TDef} {sv : Bool} (h : VDef l sv) : vDefs l sv = true := by
 unfold vDefs
 rw [Bool.and_eq_true]
 refine ⟨decide_eq_true h.len, List.all_eq_true.2 fun k hk => ?_⟩
 have hk := List.mem_range.1 hk
 have hm := getD_memD hk
 unfold dOk dHead
 rw [Bool.and_eq_true, Bool.and_eq_true, Bool.and_eq_true, Bool.and_eq_true]
 exact ⟨⟨⟨⟨h.name _ hm, decide_eq_true (h.first k hk)⟩, decide_eq_true (h.i1 _ hm)⟩, decide_eq_true (h.i2 _ hm)⟩, List.all_eq_true.2 fun x hx => h.items _ hm x hx⟩
theorem iValid_of {i : TInt} (h : IV i) : iValid i = true := by
 unfold iValid
 simp only [Bool.and_eq_true, decide_eq_true_eq]
 refine ⟨⟨⟨⟨⟨⟨vDefs_of h.gs, vDefs_of h.ss⟩, h.wl⟩, h.sl⟩, h.pl⟩, h.hl⟩, ⟨⟨?_, List.all_eq_true.2 h.stms⟩, List.all_eq_true.2 h.pubs⟩, List.all_eq_true.2 h.hids⟩
 refine List.all_eq_true.2 fun k hk => ?_
 have hk := List.mem_range.1 hk
 have hm := getD_memD hk
 unfold wWin
 rw [Bool.and_eq_true, Bool.and_eq_true]
 exact ⟨⟨h.wname _ hm, decide_eq_true (h.wfirst k hk)⟩, h.wok _ hm⟩
theorem eqI_self (x : TItem) : eqI x x = true := by simp [eqI]
theorem GDefs.vdef {nm : List Str} {Q : TItem → Prop} {ds : List TDef} {sv : Bool} (h : GDefs nm Q ds) (hn : ∀ k, k < 3 → vname (nm.getD k []) = true) (hd : ∀ k, k < 3 → ∀ j, j < k → (nm.getD j [] == nm.getD k []) = false) (hq : ∀ y, Q y → vItem y sv = true) : VDef ds sv := by
 have h3 := h.1
 have hget : ∀ k, k < ds.length → ∃ d, ds[k]? = some d ∧ ds.getD k default = d := fun k hk => ⟨ds[k], List.getElem?_eq_getElem hk, by rw [List.getD, List.getElem?_eq_getElem hk]; rfl⟩
 refine ⟨by omega, fun d hd' => ?_, fun k hk => ?_, fun d hd' => (h.mem hd').1.1, fun d hd' => by have := (h.mem hd').1.2; omega, fun d hd' y hy => hq y ((h.mem hd').2 y hy)⟩
 ·obtain ⟨k, hk⟩ := List.mem_iff_getElem?.1 hd'
  rw [(h.2 k d hk).1]
  exact hn k (by have := (List.getElem?_eq_some_iff.1 hk).1; omega)
 ·obtain ⟨d, e, e2⟩ := hget k hk
  rw [e2]
  refine firstAt_hit hk ?_ fun j x hj hx => ?_
  ·have : ds[k] = d := by have := List.getElem?_eq_getElem hk; rw [e] at this; exact (Option.some.inj this).symm
   rw [this]; exact beq_self_eq_true _
  ·show (x.name == d.name) = false
   rw [(h.2 j x hx).1, (h.2 k d e).1]
   exact hd k (by omega) j hj
theorem TGen.zone {m : Nat} {t : Topo} (h : TGen m t) {e : TEdge} (he : e ∈ t.edges) : vname e.zone = true := by
 obtain ⟨k, hk⟩ := List.mem_iff_getElem?.1 he
 exact (by decide : ∀ z ∈ zones3, vname z = true) _ (h.edges k e hk).zone
theorem TGen.ename {m : Nat} {t : Topo} (h : TGen m t) {e : TEdge} (he : e ∈ t.edges) : vname e.name = true := by
 obtain ⟨k, hk⟩ := List.mem_iff_getElem?.1 he
 have h1 := (List.getElem?_eq_some_iff.1 hk).1
 have h2 := h.el
 rw [(h.edges k e hk).name]
 exact (by decide : ∀ k, k < 5 → vname (names5.getD k []) = true) k (by omega)
theorem TGen.dcls {m : Nat} {t : Topo} (h : TGen m t) {d : TDev} (hd : d ∈ t.devs) : okName d.cls = true := by
 obtain ⟨k, hk⟩ := List.mem_iff_getElem?.1 hd
 exact (by decide : ∀ z ∈ cls3, okName z = true) _ (h.devs k d hk).cls
theorem ok_of {s : Str} (h : vname s = true) : okName s = true := by unfold okName; rw [h, Bool.or_true]
theorem GGItem.ok {m : Nat} {x : Topo} (hx : TGen m x) {y : TItem} (h : GGItem x y) : vItem y false = true := by
 rcases h with ⟨p, hp, rfl⟩ | ⟨e, he, rfl⟩ | rfl
 ·show ((!false && pvalid p) && eqI ⟨2, [], p, 0, rng0⟩ ⟨2, [], p, 0, rng0⟩) = true
  rw [valid_eq p hp.1, hp.2, eqI_self]; rfl
 ·show ((!false && vname e.zone) && eqI ⟨1, e.zone, pfx0, 0, rng0⟩ ⟨1, e.zone, pfx0, 0, rng0⟩) = true
  rw [hx.zone he, eqI_self]; rfl
 ·decide
theorem GSItem.ok {y : TItem} (h : GSItem y) : vItem y true = true := by
 rcases h with ⟨p, r, hp, hr, rfl⟩ | rfl | rfl | rfl
 ·show ((true && vPorts p r) && eqI ⟨4, [], pfx0, p, r⟩ ⟨4, [], pfx0, p, r⟩) = true
  rw [eqI_self]
  unfold vPorts
  rw [if_pos hp, decide_eq_true hr.2.1, decide_eq_true hr.2.2]
  rfl
 all_goals decide
theorem IGen.iv {m n : Nat} {x : Topo} {i : TInt} (hx : TGen m x) (h : IGen x n i) (hn : n ≤ 64) : IV i := by
 have vg : VDef i.groups false := h.gs.vdef (by decide) (by decide) fun y hy => hy.ok hx
 have vs : VDef i.services true := h.ss.vdef (by decide) (by decide) fun y hy => hy.ok
 have vw : ∀ w ∈ i.windows, w.name = [119, 111, 114, 107] := fun w hw => by obtain ⟨q, _, rfl⟩ := h.win hw; rfl
 refine ⟨vg, vs, ?_, Nat.le_trans h.stl hn, Nat.le_trans h.pl (by decide), Nat.le_trans h.hl (by decide), fun w hw => ?_, fun k hk => ?_, fun w hw => ?_, fun s hs => ?_, fun p hp => ?_, fun d hd => ?_⟩
 ·rcases h.ws with e | ⟨q, _, e⟩ <;> rw [e] <;> simp
 ·rw [vw w hw]; decide
 ·rcases h.ws with e | ⟨q, _, e⟩ <;> rw [e] at hk ⊢
  ·cases hk
  ·have : k = 0 := by simp at hk; exact hk
   subst this
   rfl
 ·obtain ⟨q, hq, rfl⟩ := h.win hw; exact wOk_q hq
 ·have g := h.stm s hs
  have ng : ∀ t : Str, (t = [] ∨ ∃ d ∈ i.groups, t = d.name) → okName t = true := fun t ht => by
   rcases ht with rfl | ⟨d, hd, rfl⟩
   ·rfl
   ·exact ok_of (vg.name d hd)
  have hexs : okName s.exSrc = true := by
   rcases g.exc with ⟨_, e, _⟩ | ⟨_, e, _⟩
   ·exact ng _ e
   ·rw [e]; rfl
  have hexd : okName s.exDst = true := by
   rcases g.exc with ⟨_, _, e⟩ | ⟨_, _, e⟩
   ·exact ng _ e
   ·rw [e]; rfl
  have hsv : okName s.service = true := by
   rcases g.service with e | ⟨d, hd, e⟩ <;> rw [e]
   ·rfl
   ·exact ok_of (vs.name d hd)
  have hcl : okName s.cls = true := by
   rcases g.cls with e | ⟨_, d, hd, e⟩ <;> rw [e]
   ·rfl
   ·exact hx.dcls hd
  have hdu : okName s.during = true := by
   rcases g.during with e | ⟨d, hd, e⟩ <;> rw [e]
   ·rfl
   ·rw [vw d hd]; decide
  have hpr := (by decide : ∀ z ∈ prios5, 0 ≤ z ∧ z ≤ 1000) _ g.prio
  unfold vStm stmNames stmRest
  simp only [List.all_cons, List.all_nil, ng _ g.src, ng _ g.dst, hsv, hcl, hdu, hexs, hexd, Bool.true_and, Bool.and_true, Bool.and_eq_true, Bool.or_eq_true, decide_eq_true_eq]
  refine ⟨⟨⟨?_, ?_⟩, hpr.1⟩, hpr.2⟩
  ·rcases g.cls with e | ⟨e, _⟩
   ·exact .inr (by rw [e]; rfl)
   ·exact .inl e
  ·rcases g.exc with ⟨e, _⟩ | ⟨_, e1, e2⟩
   ·exact .inl e
   ·exact .inr ⟨by rw [e1]; rfl, by rw [e2]; rfl⟩
 ·obtain ⟨h1, h2, h3, ⟨e, he, h4⟩, _⟩ := h.pub p hp
  unfold vPub
  rw [h4, hx.ename he, decide_eq_true h2.1, decide_eq_true h2.2, decide_eq_true h3.1, decide_eq_true h3.2]
  rcases h1 with e | e <;> rw [e] <;> rfl
 ·obtain ⟨h1, ⟨e, he, h2⟩, _, h4, h5, h6⟩ := h.hid d hd
  unfold vHid
  rw [h1, h2, hx.ename he, h4, decide_eq_true h5, decide_eq_true (show d.ports.hi ≤ 65535 by omega)]
  rfl
theorem joinW_len3 : ∀ (w : List Str) (k : Nat), (∀ s ∈ w, s.length ≤ 24) → (joinW k w).length ≤ w.length * 25
 | [], k, _ => by cases k <;> simp [joinW]
 | x :: w, 0, h => by
  have := joinW_len3 w 1 fun s hs => h s (List.mem_cons_of_mem _ hs)
  have := h x (List.mem_cons_self ..)
  simp only [joinW, List.length_append, List.length_cons]
  omega
 | x :: w, k + 1, h => by
  have := joinW_len3 w (k + 2) fun s hs => h s (List.mem_cons_of_mem _ hs)
  have := h x (List.mem_cons_self ..)
  simp only [joinW, List.length_append, List.length_cons, List.length_nil]
  omega
theorem lineS_len3 {w : List Str} (h : ∀ s ∈ w, s.length ≤ 24) : (lineS w).length ≤ w.length * 25 + 1 := by
 have h1 := joinW_len3 w 0 h
 simp only [lineS, List.length_append, List.length_cons, List.length_nil]
 omega
theorem textS_len3 (m : Nat) : ∀ (l : List TLine), (∀ x ∈ l, x.words.length ≤ m ∧ ∀ s ∈ x.words, s.length ≤ 24) → (textS l).length ≤ l.length * (m * 25 + 1)
 | [], _ => Nat.zero_le _
 | x :: l, h => by
  have h1 := textS_len3 m l fun y hy => h y (List.mem_cons_of_mem _ hy)
  have h2 := h x (List.mem_cons_self ..)
  have h3 := lineS_len3 h2.2
  have e : textS (x :: l) = lineS x.words ++ textS l := rfl
  have h4 := Nat.mul_le_mul_right 25 h2.1
  rw [e, List.length_append, List.length_cons, Nat.succ_mul]
  omega
theorem itemsN_len3 (l : List TItem) (g : Bool) : ∀ k : Nat, (itemsN l g k).length ≤ 3 * k
 | 0 => Nat.zero_le _
 | k + 1 => by
  have h1 := itemsN_len3 l g k
  have h2 := (itemW_len (l.getD k default) g).1
  rw [itemsN, List.length_append, List.length_append]
  split <;> simp only [List.length_cons, List.length_nil] <;> omega
theorem defW_len3 {g : Bool} {d : TDef} (h : d.items.length ≤ 2) : (defW g d).length ≤ 9 := by
 have := itemsN_len3 d.items g d.items.length
 unfold defW itemsW
 rw [List.length_append]
 simp only [List.length_cons, List.length_nil]
 omega
theorem IGen.text {m n : Nat} {x : Topo} {i : TInt} (hx : TGen m x) (h : IGen x n i) (hn : n ≤ 4) : (textS (iLines i)).length ≤ 16384 := by
 have hv := h.iv hx (by omega)
 have hf := iLines_fl hv h.iin.toIIn
 have he : ∀ y ∈ iLines i, ∀ s ∈ y.words, s.length ≤ 24 := fun y hy s hs => ((hf y hy).each s hs).len
 have e : iLines i = (lGroups i ++ lServices i) ++ (((lWindows i ++ lStms i) ++ lPubs i) ++ lHids i) := by
  unfold iLines; simp only [List.append_assoc]
 have h1 : (textS (lGroups i ++ lServices i)).length ≤ (lGroups i ++ lServices i).length * (9 * 25 + 1) := textS_len3 9 _ fun y hy => by
  refine ⟨?_, he y (by rw [e]; exact List.mem_append_left _ hy)⟩
  simp only [lGroups, lServices, List.mem_append, List.mem_map] at hy
  rcases hy with ⟨d, hd, rfl⟩ | ⟨d, hd, rfl⟩
  ·exact defW_len3 (h.gs.mem hd).1.2
  ·exact defW_len3 (h.ss.mem hd).1.2
 have h2 : (textS (((lWindows i ++ lStms i) ++ lPubs i) ++ lHids i)).length ≤ (((lWindows i ++ lStms i) ++ lPubs i) ++ lHids i).length * (60 * 25 + 1) := textS_len3 60 _ fun y hy => by
  have hy' : y ∈ iLines i := by rw [e]; exact List.mem_append_right _ hy
  exact ⟨(hf y hy').few, he y hy'⟩
 have g1 := h.gs.1
 have g2 := h.ss.1
 have g3 : i.windows.length ≤ 1 := by
  rcases h.ws with e | ⟨q, _, e⟩ <;> rw [e] <;> simp
 have g4 := h.stl
 have g5 := h.pl
 have g6 := h.hl
 rw [e, textS_app, List.length_append]
 simp only [lGroups, lServices, lWindows, lStms, lPubs, lHids, List.length_append, List.length_map] at h1 h2
 simp only [lGroups, lServices, lWindows, lStms, lPubs, lHids]
 omega
variable {Gl : Glob}
attribute [local irreducible] PW PWL OpP PCalls PWO iParse iValid iFormat PWT bothT
def kinds5 : List Str := [[104, 105, 100, 101], [119, 105, 110, 100, 111, 119], [103, 114, 111, 117, 112], [112, 117, 98, 108, 105, 115, 104], [115, 101, 114, 118, 105, 99, 101]]
theorem kinds5_mem {n : Nat} (h : n < 5) : kinds5.getD n [] ∈ [[104, 105, 100, 101], [119, 105, 110, 100, 111, 119], [103, 114, 111, 117, 112], [112, 117, 98, 108, 105, 115, 104], [115, 101, 114, 118, 105, 99, 101]] := (by decide : ∀ n, n < 5 → kinds5.getD n [] ∈ [[104, 105, 100, 101], [119, 105, 110, 100, 111, 119], [103, 114, 111, 117, 112], [112, 117, 98, 108, 105, 115, 104], [115, 101, 114, 118, 105, 99, 101]]) n h
instance iLines10 (s : Str) : ConF Tryz.prog Gl 20 [.str s] True (.tup [.sl ((lines s).1.map eLine), .int .i64 (lines s).2.1, .int .i64 (lines s).2.2]) := ⟨e20, fun _ => c25 s⟩
theorem c5 (hG : GM Gl) (hD' : GD Gl) (l : List Int) (hl : Tp l) : PFun Tryz.prog Gl 5 [.sl (l.map eInt)] fun r => r = .bool true := by
 (refine PFun.of hT Tryz.func5 rfl fun B hD => ?_; refine pw_norm rfl ?_)
 (repeat' (first | refine zS ?_ | refine zq5 ?_ | refine zq6 ?_))
 (refine pl_op rfl (zCl [] e10 (c10 l) (fun r s hq => ?_)); obtain ⟨rfl, rfl⟩ := hq; refine ⟨rfl, rfl, ?_⟩; (refine zNp ?_))
 (repeat' (first | refine zS ?_ | refine zq5 ?_ | refine zq6 ?_))
 (refine pl_op rfl (zCl [0] e13 (c12 l hl 0 (Nat.zero_le _) 3 (by decide) (by decide)) (fun r s hq => ?_)); obtain ⟨j1, T, c, ⟨m, hmn, hg⟩, hj1, rfl, rfl⟩ := hq; refine ⟨rfl, rfl, ?_⟩; (refine zNp ?_))
 have hT1 := hg.el
 have hT2 := hg.dl
 have hT3 := hg.n6
 refine pl_frzV (fun i => Nat.ble 1 i) 25 (y := eTopo T) rfl (by (refine .inr (.inr (.inr (.inr (.inl ⟨_, _, rfl, rfl, ?_⟩)))); (repeat (first | exact True.intro | refine ⟨.inr (.inl rfl), ?_⟩ | refine ⟨.inr (.inr (.inl ⟨rfl, rfl⟩)), ?_⟩ | refine ⟨.inr (.inr (.inr (.inl ⟨_, _, _, _, _, _, rfl, rfl, rfl, rfl, rfl⟩))), ?_⟩ | refine ⟨.inr (.inr (.inr (.inl ⟨_, _, _, _, _, _, rfl, rfl, rfl, (by simp only [List.length_map, List.length_set, List.length_append, List.length_cons, List.length_nil]), rfl⟩))), ?_⟩)))) ?_
 (refine zNp ?_)
 (refine pl_op rfl (zCl [0] e12 (c_gIntent l hl j1 hj1 T 4 (by decide) (by omega) (by omega) hg.epfx) (fun r s hq => ?_)); obtain ⟨j2, ⟨I, hI, rfl⟩, hj2, rfl⟩ := hq; refine ⟨rfl, rfl, ?_⟩; (refine zNp ?_))
 (repeat' (first | refine zS ?_ | refine zq5 ?_ | refine zq6 ?_))
 have hi2 := hI.iin
 have hbig := hI.big (by decide)
 have hv := hI.iv hg (by decide)
 have hval := iValid_of hv
 have htx := hI.text hg (Nat.le_refl _)
 have hF : iFormat I = (textS (iLines I), 0) := by unfold iFormat; rw [if_pos hval]
 have h11 := c_rFormat16 (Gl := Gl) I hbig hi2
 rw [hF] at h11
 dsimp only at h11
 have hlin := lines_text2 _ (iLines_good hv hi2.toIIn) htx
 (refine pl_op rfl (op_fun (h11) rfl rfl e11 zLe rfl (fun r hr => ?_)); subst hr; refine ⟨rfl, ?_⟩; (refine zNp ?_))
 (repeat' (first | refine zS ?_ | refine zq5 ?_ | refine zq6 ?_))
 rw [hlin]
 dsimp only
 (refine pl_op rfl (zCl [0] e17 (c13n l hl j2 hj2 5 (by decide) (by decide)) (fun r s hq => ?_)); obtain ⟨j3, ⟨m3, hm3, rfl⟩, hj3, rfl⟩ := hq; refine ⟨rfl, rfl, ?_⟩; (refine zNp ?_))
 (repeat' (first | refine zS ?_ | refine zq5 ?_ | refine zq6 ?_))
 (refine pl_op rfl (op_of (v_index (p := .str (kinds5.getD m3 [])) hT rfl rfl rfl rfl (by omega) (lit_at .str kinds5 m3 [] hm3) rfl) ?_); (refine zNp ?_))
 (repeat' (first | refine zS ?_ | refine zq5 ?_ | refine zq6 ?_))
 have hf := kinds5_mem hm3
 generalize kinds5.getD m3 [] = f at hf ⊢
 have hLw : (numF 0 (iLines I)).map TLine.words = (iLines I).map TLine.words := numF_words _ _
 have hLs : ∀ x ∈ numF 0 (iLines I), 0 < x.words.length := fun x hx => by
  have : x.words ∈ (iLines I).map TLine.words := by rw [← hLw]; exact List.mem_map_of_mem hx
  obtain ⟨y, hy, e⟩ := List.mem_map.1 this
  rw [← e]; exact (iLines_good hv hi2.toIIn).some y hy
 have hLl : (numF 0 (iLines I)).length ≤ 184 := by
  have := congrArg List.length hLw
  rw [List.length_map, List.length_map] at this
  have := iLines_len hv
  omega
 have hord := iParse_ord hv hi2 htx hLw hf
 generalize numF 0 (iLines I) = L at hLw hLs hLl hord ⊢
 refine pw_ghost 2 ?_
 refine pw_ghost 2 ?_
 refine zNq ?_
 refine pw_for hD (fun a : Nat × Nat × Nat => [(11, .msl 2 8 0 (((L.take a.1).filter fun x => !hdIs f x).map eLine).length a.2.1), (12, .msl 2 9 0 (((L.take a.1).filter (hdIs f)).map eLine).length a.2.2), (14, .int .i64 a.1)])
  (fun a => [tape l j3, .dead, .dead, .dead, .dead, .dead, .dead, .box (eIntent I).cells, .arr 2 (((L.take a.1).filter fun x => !hdIs f x).map eLine) a.2.1, .arr 2 (((L.take a.1).filter (hdIs f)).map eLine) a.2.2])
  (fun a => a.1 ≤ L.length) (fun a => L.length - a.1) (0, 0, 0) (Nat.zero_le _) 10 rfl (fun _ => rfl) zLes (fun _ => rfl) (fun _ => rfl) zLe ?_
 rintro ⟨i, c1, c2⟩ hi
 dsimp only at hi ⊢
 refine zNq ?_
 (repeat' (first | refine zS ?_ | refine zq5 ?_ | refine zq6 ?_))
 refine zT ?_ ?_ <;> intro h <;> refine zNq ?_
 ·have hlt : i < L.length := by simpa using h
  have hgd : L.getD i default = L[i] := by rw [List.getD, List.getElem?_eq_getElem hlt]; rfl
  have hx : 0 < (L.getD i default).words.length := by rw [hgd]; exact hLs _ (List.getElem_mem hlt)
  have e1 : ∀ p : TLine → Bool, (L.take (i + 1)).filter p = (L.take i).filter p ++ if p (L.getD i default) then [L.getD i default] else [] := fun p => by
   rw [hgd, List.take_succ_eq_append_getElem hlt, List.filter_append]
   cases hq : p L[i] <;> simp [hq]
  have hle1 := List.length_filter_le (hdIs f) (L.take i)
  have hle2 := List.length_filter_le (fun x => !hdIs f x) (L.take i)
  rw [List.length_take] at hle1 hle2
  (repeat' (first | refine zS ?_ | refine zq5 ?_ | refine zq6 ?_))
  refine zT ?_ ?_ <;> intro h2 <;> refine zNq ?_
  ·have hd : hdIs f (L.getD i default) = true := by simpa [hdIs, hasHd] using h2
   (repeat' (first | refine zS ?_ | refine zq5 ?_ | refine zq6 ?_))
   (refine pl_append (b := 32) hT hD rfl rfl rfl rfl rfl rfl rfl rfl (.inl (Nat.zero_lt_succ _)) rfl rfl (by simp; omega) (fun cap' _ hcap => ?_); (refine zNp ?_))
   (repeat' (first | refine zS ?_ | refine zq5 ?_ | refine zq6 ?_))
   refine ⟨(i + 1, c1, cap'), by dsimp only; omega, by dsimp only; omega, ?_, ?_⟩
   ·rw [e1, e1, hd]
    simp only [Bool.not_true, Bool.false_eq_true, if_false, if_true, List.append_nil, List.map_append, List.length_append]
    (exact zLe)
   ·rw [e1, e1, hd]
    simp only [Bool.not_true, Bool.false_eq_true, if_false, if_true, List.append_nil, List.map_append]
    (exact zLes)
  ·have hd : hdIs f (L.getD i default) = false := by simpa [hdIs, hasHd] using h2
   (repeat' (first | refine zS ?_ | refine zq5 ?_ | refine zq6 ?_))
   (refine pl_append (b := 32) hT hD rfl rfl rfl rfl rfl rfl rfl rfl (.inl (Nat.zero_lt_succ _)) rfl rfl (by simp; omega) (fun cap' _ hcap => ?_); (refine zNp ?_))
   (repeat' (first | refine zS ?_ | refine zq5 ?_ | refine zq6 ?_))
   refine ⟨(i + 1, cap', c2), by dsimp only; omega, by dsimp only; omega, ?_, ?_⟩
   ·rw [e1, e1, hd]
    simp only [Bool.not_false, Bool.false_eq_true, if_false, if_true, List.append_nil, List.map_append, List.length_append]
    (exact zLe)
   ·rw [e1, e1, hd]
    simp only [Bool.not_false, Bool.false_eq_true, if_false, if_true, List.append_nil, List.map_append]
    (exact zLes)
 ·obtain rfl : i = L.length := by
   have : ¬ i < L.length := by simpa using h
   omega
  rw [List.take_length]
  obtain ⟨⟨hg1, hb1, hp1⟩, hg2, hb2, hp2⟩ := hord
  have hl1 := List.length_filter_le (hdIs f) L
  have hl2 := List.length_filter_le (fun x => !hdIs f x) L
  generalize L.filter (hdIs f) = rs at *
  generalize (L.filter fun x => !hdIs f x) = ou at *
  have hs1 : Small (rs ++ ou) := by unfold Small; rw [List.length_append]; omega
  have hs2 : Small (ou ++ rs) := by unfold Small; rw [List.length_append]; omega
  have hf1 : ∀ x ∈ rs ++ ou, Small x.words := fun x hx => by have := hg1.few x hx; unfold Small; omega
  have hf2 : ∀ x ∈ ou ++ rs, Small x.words := fun x hx => by have := hg2.few x hx; unfold Small; omega
  (repeat' (first | refine zS ?_ | refine zq5 ?_ | refine zq6 ?_))
  refine pl_appendK (b := 32) 12 hT rfl rfl rfl rfl rfl rfl rfl rfl rfl rfl (by simp only [List.all_map]; exact List.all_eq_true.2 fun _ _ => rfl) (by simp only [List.all_map]; exact List.all_eq_true.2 fun _ _ => rfl) (by simp only [List.length_map]; omega) ?_
  rw [← List.map_append]
  (refine zNp ?_)
  (refine pl_op rfl (op_fun (c27 (rs ++ ou) hs1 hf1 (by unfold Small; omega)) rfl rfl e21 zLe rfl (fun r hr => ?_)); subst hr; refine ⟨rfl, ?_⟩; (refine zNp ?_))
  (refine pl_op rfl (op_fun (c_iParse hG hD' (textS (rs ++ ou))) rfl rfl e19 zLe rfl (fun r hr => ?_)); subst hr; refine ⟨rfl, ?_⟩; (refine zNp ?_))
  rw [hp1]
  (repeat' (first | refine zS ?_ | refine zq5 ?_ | refine zq6 ?_))
  (refine pl_op rfl (op_appendF (b := 32) hT rfl rfl rfl rfl (by simp) rfl (by simp only [List.all_map]; exact List.all_eq_true.2 fun _ _ => rfl) (by simp only [List.all_map]; exact List.all_eq_true.2 fun _ _ => rfl) (by simp only [List.length_map]; omega) ?_); (refine zNp ?_))
  rw [← List.map_append]
  (refine pl_op rfl (op_fun (c27 (ou ++ rs) hs2 hf2 (by unfold Small; omega)) rfl rfl e21 zLe rfl (fun r hr => ?_)); subst hr; refine ⟨rfl, ?_⟩; (refine zNp ?_))
  (refine pl_op rfl (op_fun (c_iParse hG hD' (textS (ou ++ rs))) rfl rfl e19 zLe rfl (fun r hr => ?_)); subst hr; refine ⟨rfl, ?_⟩; (refine zNp ?_))
  rw [hp2]
  (repeat' (first | refine zS ?_ | refine zq5 ?_ | refine zq6 ?_))
  (refine pl_on rfl rfl (op_fun (c_same I hbig) rfl rfl e22 zLe rfl (fun r hr => ?_)); subst hr; refine ⟨rfl, ?_⟩; (refine zNp ?_))
  (repeat' (first | refine zS ?_ | refine zq5 ?_ | refine zq6 ?_))
  (refine pl_on rfl rfl (op_fun (c_same I hbig) rfl rfl e22 zLe rfl (fun r hr => ?_)); subst hr; refine ⟨rfl, ?_⟩; (refine zNp ?_))
  (repeat' (first | refine zS ?_ | refine zq5 ?_ | refine zq6 ?_))
  exact ret2 _ rfl rfl rfl

end
end Go.Proofs.YtkaobkjcjodffaaGreatDoor