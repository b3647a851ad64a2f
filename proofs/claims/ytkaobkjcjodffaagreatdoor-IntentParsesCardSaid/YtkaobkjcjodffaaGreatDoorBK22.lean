/-
 Contracts of functions, walked over pure values.
-/
import Derived.Test.YtkaobkjcjodffaaGreatDoorBK44
import Derived.Test.YtkaobkjcjodffaaGreatDoorAPwEqA
set_option maxHeartbeats 20000000
set_option maxRecDepth 100000
namespace Go.Proofs.YtkaobkjcjodffaaGreatDoor
open Go Go.Pw
variable {Gl : Glob}
attribute [local irreducible] PW PWL OpP PCalls PWO formB vname digitsB number rNum addr portsT PWT bothT
theorem c_wide (w : Str) : PFun Tryz.prog Gl 165 [.str w] fun r => r = .tup [.str (rdRef w).1, .bool (rdRef w).2] := by
 (refine PFun.of hT Tryz.func165 rfl fun B hD => ?_; refine pw_norm rfl ?_)
 unfold rdRef
 (repeat' (first | refine zS ?_ | (refine zT ?_ ?_ <;> intro h <;> first | exact zX | refine zNq ?_)))
 ·rw [if_pos h]; exact ret2 _ rfl rfl rfl
 ·rw [if_neg h]; exact ret2 _ rfl rfl rfl
instance iWide (w : Str) : ConF Tryz.prog Gl 165 [.str w] True (.tup [.str (rdRef w).1, .bool (rdRef w).2]) := ⟨e165, fun _ => c_wide w⟩
def qCells (x : RRd) : List PV := [.bool x.g0, .bool x.g1, .bool x.g2, .bool x.g3, .bool x.g4]
def stmCells' (s : TStm) : List PV := [.bool s.permit, .str s.src, .str s.dst, .str s.service, .bool s.excepted, .str s.exSrc, .str s.exDst, .str s.cls, .str s.during, .int .i64 s.prio]
def box0S : PObj := .box [.bool false, .str [], .str [], .str [], .bool false, .str [], .str [], .str [], .str [], .int .i64 0]
def qS (x : RRd) : List PObj := [box0S, .box (stmCells' x.s), .box (qCells x)]
theorem good_eq (x : RRd) : (!((List.range 5).all fun i => [x.g0, x.g1, x.g2, x.g3, x.g4].getD i false == [true, true, true, true, true].getD i false)) = !x.good := by
 obtain ⟨s, g0, g1, g2, g3, g4, l⟩ := x
 cases g0 <;> cases g1 <;> cases g2 <;> cases g3 <;> cases g4 <;> rfl
attribute [local irreducible] RRd.good
structure QOk (x : RRd) : Prop where
 len : x.rest.length ≤ 1000
 each : ∀ k, (x.rest.getD k []).length < 4294967281
theorem qHead_ok {w : List Str} (h1 : w.length ≤ 1000) (h2 : ∀ k, (w.getD k []).length < 4294967281) : QOk (qHead w) := ⟨(RdOk.drop h1 h2 5).1, (RdOk.drop h1 h2 5).2⟩
theorem qExc_ok {x : RRd} (h : QOk x) : QOk (qExc x) := by unfold qExc; split; exact ⟨(RdOk.drop h.len h.each 4).1, (RdOk.drop h.len h.each 4).2⟩; exact h
theorem qVia_ok {x : RRd} (h : QOk x) : QOk (qVia x) := by unfold qVia; split; exact ⟨(RdOk.drop h.len h.each 2).1, (RdOk.drop h.len h.each 2).2⟩; exact h
theorem qDur_ok {x : RRd} (h : QOk x) : QOk (qDur x) := by unfold qDur; split; exact ⟨(RdOk.drop h.len h.each 2).1, (RdOk.drop h.len h.each 2).2⟩; exact h
theorem qPri_ok {x : RRd} (h : QOk x) : QOk (qPri x).1 := by unfold qPri; split; exact ⟨(RdOk.drop h.len h.each 2).1, (RdOk.drop h.len h.each 2).2⟩; exact h
theorem c_rStatement (w : List Str) (hw : WOk w) (hl : w.length ≤ 1000) : PFun Tryz.prog Gl 133 [.sl (w.map .str)] fun r => r = .tup [eStm (rdStm w).2, .int .i64 (rdStm w).1] := by
 rw [← qStm_eq]
 (refine PFun.of hT Tryz.func133 rfl fun B hD => ?_; refine pw_norm rfl ?_)
 have k0 := qHead_ok hl hw.at
 (repeat' (first | refine zS ?_ | refine zq5 ?_ | refine zq6 ?_))
 refine zT ?_ ?_ <;> intro h <;> refine zNq ?_
 ·(repeat' (first | refine zS ?_ | refine zq5 ?_ | refine zq6 ?_ | (refine zT ?_ ?_ <;> intro h <;> first | exact zX | refine zNq ?_)))
  rw [show qStm w = (4, stm0) from if_pos h]
  exact ret2 _ rfl rfl rfl
 have hs : qStm w = if ¬ qEnd (qPri (qDur (qVia (qExc (qHead w))))) = 0 then (qEnd (qPri (qDur (qVia (qExc (qHead w))))), stm0) else (0, (qPri (qDur (qVia (qExc (qHead w))))).1.s) := if_neg h
 rw [hs]
 clear hs
 (repeat' (first | refine zS ?_ | refine zq5 ?_ | refine zq6 ?_))
 (refine pl_op rfl (op_of (v_indexA hT rfl rfl rfl rfl (by decide) (by decide)) ?_); (refine zNp ?_))
 (repeat' (first | refine zS ?_ | refine zq5 ?_ | refine zq6 ?_))
 (refine pl_op rfl (op_of (v_indexA hT rfl rfl rfl rfl (by decide) (by decide)) ?_); (refine zNp ?_))
 (repeat' (first | refine zS ?_ | refine zq5 ?_ | refine zq6 ?_))
 (refine pl_op rfl (op_of (v_indexA hT rfl rfl rfl rfl (by decide) (by decide)) ?_); (refine zNp ?_))
 (repeat' (first | refine zS ?_ | refine zq5 ?_ | refine zq6 ?_))
 refine pw_join hD True [(0, .sl ((qExc (qHead w)).rest.map .str)), (66, .any)] (qS (qExc (qHead w))) 3 rfl rfl rfl rfl ?_ (fun _ => ?_)
 ·refine zT ?_ ?_ <;> intro h1 <;> refine zNq ?_
  ·have e : qExc (qHead w) = ⟨_, _, _, _, _, _, _⟩ := if_pos h1
   rw [e]
   (repeat' (first | (refine zDr [[0,1,2,3,4,5],[6],[7]] ?_; refine zDn ?_) | refine zS ?_ | refine zD ?_ | refine po_both ?_ ?_ | refine pwt_both ?_ ?_ | refine pwt_fork ?_ | refine pwt_lin ?_ | (refine po_test rfl rfl rfl rfl zB ?_ ?_ <;> intro hb <;> first | exact zX | refine zDn ?_) | refine zq5 ?_ | refine zq6 ?_))
   (refine pl_op rfl (op_of (v_indexA hT rfl rfl rfl rfl (by decide) (by decide)) ?_); (refine zNp ?_))
   (repeat' (first | refine zS ?_ | refine zq5 ?_ | refine zq6 ?_))
   (refine pl_op rfl (op_of (v_indexA hT rfl rfl rfl rfl (by decide) (by decide)) ?_); (refine zNp ?_))
   (repeat' (first | refine zS ?_ | refine zq5 ?_ | refine zq6 ?_))
   exact ⟨trivial, zLe, zLes⟩
  ·have e : qExc (qHead w) = (qHead w) := if_neg h1
   rw [e]
   (repeat' (first | refine zS ?_ | refine zq5 ?_ | refine zq6 ?_))
   exact ⟨trivial, zLe, zLes⟩
 have k1 := qExc_ok k0
 generalize qExc (qHead w) = x1 at k1 ⊢
 have k1l := k1.len
 unfold qS
 (repeat' (first | refine zS ?_ | refine zq5 ?_ | refine zq6 ?_))
 refine pw_join hD True [(0, .sl ((qVia x1).rest.map .str)), (106, .any)] (qS (qVia x1)) 3 rfl rfl rfl rfl ?_ (fun _ => ?_)
 ·refine zT ?_ ?_ <;> intro h1 <;> refine zNq ?_
  ·have e : qVia x1 = ⟨_, _, _, _, _, _, _⟩ := if_pos h1
   rw [e]
   (repeat' (first | (refine zDr [[0,1,2,3,4,5],[6],[7]] ?_; refine zDn ?_) | refine zS ?_ | refine zD ?_ | refine po_both ?_ ?_ | refine pwt_both ?_ ?_ | refine pwt_fork ?_ | refine pwt_lin ?_ | (refine po_test rfl rfl rfl rfl zB ?_ ?_ <;> intro hb <;> first | exact zX | refine zDn ?_) | refine zq5 ?_ | refine zq6 ?_))
   exact ⟨trivial, zLe, zLes⟩
  ·have e : qVia x1 = x1 := if_neg h1
   rw [e]
   (repeat' (first | refine zS ?_ | refine zq5 ?_ | refine zq6 ?_))
   exact ⟨trivial, zLe, zLes⟩
 have k2 := qVia_ok k1
 clear k1 k1l
 generalize qVia x1 = x2 at k2 ⊢
 have k2l := k2.len
 unfold qS
 (repeat' (first | refine zS ?_ | refine zq5 ?_ | refine zq6 ?_))
 refine pw_join hD True [(0, .sl ((qDur x2).rest.map .str)), (127, .any)] (qS (qDur x2)) 3 rfl rfl rfl rfl ?_ (fun _ => ?_)
 ·refine zT ?_ ?_ <;> intro h1 <;> refine zNq ?_
  ·have e : qDur x2 = ⟨_, _, _, _, _, _, _⟩ := if_pos h1
   rw [e]
   (repeat' (first | (refine zDr [[0,1,2,3,4,5],[6],[7]] ?_; refine zDn ?_) | refine zS ?_ | refine zD ?_ | refine po_both ?_ ?_ | refine pwt_both ?_ ?_ | refine pwt_fork ?_ | refine pwt_lin ?_ | (refine po_test rfl rfl rfl rfl zB ?_ ?_ <;> intro hb <;> first | exact zX | refine zDn ?_) | refine zq5 ?_ | refine zq6 ?_))
   exact ⟨trivial, zLe, zLes⟩
  ·have e : qDur x2 = x2 := if_neg h1
   rw [e]
   (repeat' (first | refine zS ?_ | refine zq5 ?_ | refine zq6 ?_))
   exact ⟨trivial, zLe, zLes⟩
 have k3 := qDur_ok k2
 clear k2 k2l
 generalize qDur x2 = x3 at k3 ⊢
 have k3l := k3.len
 have k3e := k3.each 1
 unfold qS
 (repeat' (first | refine zS ?_ | refine zq5 ?_ | refine zq6 ?_))
 refine pw_join hD True [(0, .sl ((qPri x3).1.rest.map .str)), (6, .int .i64 (qPri x3).2), (142, .any)] (qS (qPri x3).1) 3 rfl rfl rfl rfl ?_ (fun _ => ?_)
 ·refine zT ?_ ?_ <;> intro h1 <;> refine zNq ?_
  ·have e : qPri x3 = (⟨_, _, _, _, _, _, _⟩, _) := if_pos h1
   rw [e]
   (repeat' (first | (refine zDr [[0,1,2,3,4,5],[6],[7]] ?_; refine zDn ?_) | refine zS ?_ | refine zD ?_ | refine po_both ?_ ?_ | refine pwt_both ?_ ?_ | refine pwt_fork ?_ | refine pwt_lin ?_ | (refine po_test rfl rfl rfl rfl zB ?_ ?_ <;> intro hb <;> first | exact zX | refine zDn ?_) | refine zq5 ?_ | refine zq6 ?_))
   exact ⟨trivial, zLe, zLes⟩
  ·have e : qPri x3 = (x3, 0) := if_neg h1
   rw [e]
   (repeat' (first | refine zS ?_ | refine zq5 ?_ | refine zq6 ?_))
   exact ⟨trivial, zLe, zLes⟩
 have k4 := qPri_ok k3
 clear k3 k3l k3e
 generalize qPri x3 = x4 at k4 ⊢
 obtain ⟨x4, er⟩ := x4
 dsimp only at k4 ⊢
 have k4l := k4.len
 have hq : qEnd (x4, er) = if ((x4.rest.map PV.str).length : Int) > 0 ∨ ¬ x4.good = true then 4 else er := by unfold qEnd; rw [List.length_map]
 rw [hq]
 unfold qS
 refine zNq ?_
 (refine zGo ?_)
 (refine pl_or 4 156 160 (!x4.good) rfl rfl rfl (fun hb => ?_) (fun hb => ?_) ?_; (focus ((refine zNp ?_); (refine zGo ?_); exact ⟨zLe, StLe.refl _⟩)); (focus ((refine zNp ?_); (refine zGo ?_); (refine pl_on rfl rfl (op_of (v_neA (ga := [x4.g0, x4.g1, x4.g2, x4.g3, x4.g4]) (gb := [true, true, true, true, true]) rfl rfl rfl (show Tryz.prog.underlying 213 = some (.array 5 4) by kernel_rfl) (by kernel_rfl) (by kernel_rfl) (by kernel_rfl) (by kernel_rfl) (by kernel_rfl) rfl rfl) ?_); (refine zNp ?_)); rw [good_eq]; (refine zGo ?_); exact ⟨zLe, StLe.refl _⟩)); (refine zNp ?_); (refine zGo ?_))
 (repeat' (first | refine zS ?_ | refine zq5 ?_ | refine zq6 ?_ | (refine zT ?_ ?_ <;> intro h <;> first | exact zX | refine zNq ?_)))
 ·rw [if_pos h]
  exact ret2 _ rfl rfl rfl
 ·rename_i g
  rw [if_neg g, if_pos h]
  exact ret2 _ rfl rfl rfl
 ·rename_i g
  rw [if_neg g, if_neg h]
  exact ret2 _ rfl rfl rfl
instance (w : List Str) : ConF Tryz.prog Gl 133 [.sl (w.map .str)] (WOk w ∧ w.length ≤ 1000) (.tup [eStm (rdStm w).2, .int .i64 (rdStm w).1]) := ⟨e133, fun h => c_rStatement w h.1 h.2⟩
theorem form_pub (w : List Str) (h0 : w.getD 0 [] = [112, 117, 98, 108, 105, 115, 104]) : formB w pubF = true ↔ ((w.length : Int) = 9 ∧ w.getD 4 [] = [97, 116]) ∧ w.getD 6 [] = [116, 111] := by
 unfold formB eqf formP pubF
 match w, h0 with
 | [], _ => simp
 | [_], _ => simp
 | [_, _], _ => simp
 | [_, _, _], _ => simp
 | [_, _, _, _], _ => simp
 | [_, _, _, _, _], _ => simp
 | [_, _, _, _, _, _], _ => simp
 | [_, _, _, _, _, _, _], _ => simp
 | [_, _, _, _, _, _, _, _], _ => simp
 | [a, b, c, d, e, f, g, h, i], h0 =>
  have h0 : a = [112, 117, 98, 108, 105, 115, 104] := h0
  subst h0
  simp
 | _ :: _ :: _ :: _ :: _ :: _ :: _ :: _ :: _ :: _ :: l, _ => simp; omega
theorem form_hid (w : List Str) (h0 : w.getD 0 [] = [104, 105, 100, 101]) : formB w hidF = true ↔ (((w.length : Int) = 8 ∧ w.getD 2 [] = [97, 116]) ∧ w.getD 4 [] = [98, 101, 104, 105, 110, 100]) ∧ w.getD 6 [] = [112, 111, 114, 116, 115] := by
 unfold formB eqf formP hidF
 match w, h0 with
 | [], _ => simp
 | [_], _ => simp
 | [_, _], _ => simp
 | [_, _, _], _ => simp
 | [_, _, _, _], _ => simp
 | [_, _, _, _, _], _ => simp
 | [_, _, _, _, _, _], _ => simp
 | [_, _, _, _, _, _, _], _ => simp
 | [a, b, c, d, e, f, g, h], h0 =>
  have h0 : a = [104, 105, 100, 101] := h0
  subst h0
  simp [and_assoc]
 | _ :: _ :: _ :: _ :: _ :: _ :: _ :: _ :: _ :: l, _ => simp; omega
def pub0 : TPub := ⟨0, 0, 0, [], 0, 0⟩
def hid0 : THid := ⟨[], [], 0, rng0⟩
def rPub (w : List Str) : Int × TPub :=
 if ((¬ formB w pubF = true ∨ ¬ digitsB (w.getD 3 []) = true) ∨ ¬ digitsB (w.getD 8 []) = true) ∨ ¬ vname (w.getD 5 []) = true then (4, pub0) else
 if (protoOf (w.getD 2 []) = 0 ∨ ¬ (addr (w.getD 1 [])).2 = true) ∨ ¬ (addr (w.getD 7 [])).2 = true then (4, pub0) else
 if ¬ (number (w.getD 3 []) 0 65535).2 = true ∨ ¬ (number (w.getD 8 []) 0 65535).2 = true then (2, pub0) else (0, ⟨(addr (w.getD 1 [])).1, protoOf (w.getD 2 []), (number (w.getD 3 []) 0 65535).1, w.getD 5 [], (addr (w.getD 7 [])).1, (number (w.getD 8 []) 0 65535).1⟩)
def rHid (w : List Str) : Int × THid :=
 if (¬ formB w hidF = true ∨ ¬ vname (w.getD 1 []) = true) ∨ ¬ vname (w.getD 3 []) = true then (4, hid0) else
 if ¬ (addr (w.getD 5 [])).2 = true ∨ ¬ (portsT (w.getD 7 [])).2 = true then (4, hid0) else
 if (portsT (w.getD 7 [])).1.lo < 1024 then (2, hid0) else (0, ⟨w.getD 1 [], w.getD 3 [], (addr (w.getD 5 [])).1, (portsT (w.getD 7 [])).1⟩)
theorem pPub_r (l : List TPub) (w : List Str) : pPub l w = if ¬ (rPub w).1 = 0 then ((rPub w).1, l) else if 16 ≤ l.length then (3, l) else (0, l ++ [(rPub w).2]) := by
 unfold pPub rPub
 split
 ·rfl
 ·split
  ·rfl
  ·split <;> rfl
theorem pHid_r (l : List THid) (w : List Str) : pHid l w = if ¬ (rHid w).1 = 0 then ((rHid w).1, l) else if 8 ≤ l.length then (3, l) else (0, l ++ [(rHid w).2]) := by
 unfold pHid rHid
 split
 ·rfl
 ·split
  ·rfl
  ·split <;> rfl
def rp2 (w : List Str) : Int × TPub :=
 if (((¬ (w.length : Int) = 9 ∨ ¬ w.getD 4 [] = [97, 116]) ∨ ¬ w.getD 6 [] = [116, 111]) ∨ ¬ w.getD 2 [] = [116, 99, 112] ∧ ¬ w.getD 2 [] = [117, 100, 112]) ∨ ¬ vname (w.getD 5 []) = true then (4, pub0) else
 if ¬ (addr (w.getD 1 [])).2 = true ∨ ¬ (addr (w.getD 7 [])).2 = true then (4, pub0) else
 if ¬ worseI (rNum (w.getD 3 []) 65535).2 (rNum (w.getD 8 []) 65535).2 = 0 then (worseI (rNum (w.getD 3 []) 65535).2 (rNum (w.getD 8 []) 65535).2, pub0) else
 (0, ⟨(addr (w.getD 1 [])).1, if w.getD 2 [] = [117, 100, 112] then 17 else 6, (rNum (w.getD 3 []) 65535).1, w.getD 5 [], (addr (w.getD 7 [])).1, (rNum (w.getD 8 []) 65535).1⟩)
theorem rp2_eq (w : List Str) (h0 : w.getD 0 [] = [112, 117, 98, 108, 105, 115, 104]) : rp2 w = rPub w := by
 have hf := form_pub w h0
 unfold rp2 rPub
 by_cases hA : formB w pubF = true
 ·obtain ⟨⟨b1, b2⟩, b3⟩ := hf.1 hA
  simp only [b1, b2, b3, hA, not_true_eq_false, false_or, eq_self]
  clear hf hA b1 b2 b3 h0
  generalize w.getD 1 [] = w1
  generalize w.getD 2 [] = w2
  generalize w.getD 3 [] = w3
  generalize w.getD 5 [] = w5
  generalize w.getD 7 [] = w7
  generalize w.getD 8 [] = w8
  unfold protoOf
  by_cases v : vname w5 = true
  case neg => simp [v]
  by_cases a1 : (addr w1).2 = true
  case neg => by_cases t : w2 = [116, 99, 112] <;> by_cases u : w2 = [117, 100, 112] <;> simp [v, a1, t, u]
  by_cases a7 : (addr w7).2 = true
  case neg => by_cases t : w2 = [116, 99, 112] <;> by_cases u : w2 = [117, 100, 112] <;> simp [v, a1, a7, t, u]
  unfold rNum worseI
  by_cases d3 : digitsB w3 = true
  case neg => by_cases t : w2 = [116, 99, 112] <;> by_cases u : w2 = [117, 100, 112] <;> simp [v, a1, a7, t, u, d3]
  by_cases d8 : digitsB w8 = true
  case neg => by_cases t : w2 = [116, 99, 112] <;> by_cases u : w2 = [117, 100, 112] <;> simp [v, a1, a7, t, u, d3, d8]
  by_cases n3 : (number w3 0 65535).2 = true
  case neg => by_cases t : w2 = [116, 99, 112] <;> by_cases u : w2 = [117, 100, 112] <;> by_cases n8 : (number w8 0 65535).2 = true <;> simp [v, a1, a7, t, u, d3, d8, n3, n8]
  by_cases n8 : (number w8 0 65535).2 = true <;> by_cases t : w2 = [116, 99, 112] <;> by_cases u : w2 = [117, 100, 112] <;> simp [v, a1, a7, t, u, d3, d8, n3, n8]
  all_goals (subst t; cases u)
 ·have q : ((¬ (w.length : Int) = 9 ∨ ¬ w.getD 4 [] = [97, 116]) ∨ ¬ w.getD 6 [] = [116, 111]) := by
   by_cases q1 : (w.length : Int) = 9
   ·by_cases q2 : w.getD 4 [] = [97, 116]
    ·exact .inr fun q3 => hA (hf.2 ⟨⟨q1, q2⟩, q3⟩)
    ·exact .inl (.inr q2)
   ·exact .inl (.inl q1)
  rw [if_pos (.inl (.inl q)), if_pos (.inl (.inl (.inl hA)))]
theorem c_rPublish (w : List Str) (h0 : w.getD 0 [] = [112, 117, 98, 108, 105, 115, 104]) (hw : WOk w) : PFun Tryz.prog Gl 134 [.sl (w.map .str)] fun r => r = .tup [ePub (rPub w).2, .int .i64 (rPub w).1] := by
 rw [← rp2_eq w h0]
 (refine PFun.of hT Tryz.func134 rfl fun B hD => ?_; refine pw_norm rfl ?_)
 unfold rp2
 have hw1 := hw.at 1
 have hw3 := hw.at 3
 have hw7 := hw.at 7
 have hw8 := hw.at 8
 (repeat' (first | refine zS ?_ | refine zq5 ?_ | refine zq6 ?_ | (refine zT ?_ ?_ <;> intro h <;> first | exact zX | refine zNq ?_)))
 ·rw [if_pos h]; exact ret2 _ rfl rfl rfl
 ·rename_i g0 g1; rw [if_neg g0, if_pos h]; exact ret2 _ rfl rfl rfl
 ·rename_i g0 g1 g2; rw [if_neg g0, if_neg g2, if_pos h]; exact ret2 _ rfl rfl rfl
 ·rename_i g0 g1 g2; rw [if_neg g0, if_neg g2, if_neg h, if_pos g1]; exact ret2 _ rfl rfl rfl
 ·rename_i g0 g1; rw [if_neg g0, if_pos h]; exact ret2 _ rfl rfl rfl
 ·rename_i g0 g1 g2; rw [if_neg g0, if_neg g2, if_pos h]; exact ret2 _ rfl rfl rfl
 ·rename_i g0 g1 g2; rw [if_neg g0, if_neg g2, if_neg h, if_neg g1]; exact ret2 _ rfl rfl rfl
theorem c_rPorts (r : TRng) (n : Int) : PFun Tryz.prog Gl 80 [eRng r, .int .u32 n] fun x => x = .bool ((decide (r.lo ≥ n) && decide (r.lo ≤ r.hi)) && decide (r.hi ≤ 65535)) := by
 (refine PFun.of hT Tryz.func80 rfl fun B hD => ?_; refine pw_norm rfl ?_)
 (repeat' (first | refine zS ?_ | refine zq5 ?_ | refine zq6 ?_ | (refine zT ?_ ?_ <;> intro h <;> first | exact zX | refine zNq ?_)))
 exact ret2 _ rfl rfl rfl
instance (r : TRng) (n : Int) : ConF Tryz.prog Gl 80 [.agg [.int .u32 r.lo, .int .u32 r.hi], .int .u32 n] True (.bool ((decide (r.lo ≥ n) && decide (r.lo ≤ r.hi)) && decide (r.hi ≤ 65535))) := ⟨e80, fun _ => c_rPorts r n⟩
theorem portsT_ok {s : Str} (h : (portsT s).2 = true) : (portsT s).1.lo ≤ (portsT s).1.hi ∧ (portsT s).1.hi ≤ 65535 := by
 unfold portsT at h ⊢
 generalize (if (Lib.cut s [45]).2.2 = true then (Lib.cut s [45]).2.1 else (Lib.cut s [45]).1) = x at h ⊢
 split at h
 ·rename_i q
  rw [if_pos q]
  exact ⟨(number_range _ _ _ q.2).1, (number_range _ _ _ q.2).2.2⟩
 ·cases h
theorem c_rHide (w : List Str) (h0 : w.getD 0 [] = [104, 105, 100, 101]) (hw : WOk w) : PFun Tryz.prog Gl 135 [.sl (w.map .str)] fun r => r = .tup [eHid (rHid w).2, .int .i64 (rHid w).1] := by
 have hf := form_hid w h0
 have hk : (((((¬ (w.length : Int) = 8 ∨ ¬ w.getD 2 [] = [97, 116]) ∨ ¬ w.getD 4 [] = [98, 101, 104, 105, 110, 100]) ∨ ¬ w.getD 6 [] = [112, 111, 114, 116, 115]) ∨ ¬ vname (w.getD 1 []) = true) ∨ ¬ vname (w.getD 3 []) = true) ↔ ((¬ formB w hidF = true ∨ ¬ vname (w.getD 1 []) = true) ∨ ¬ vname (w.getD 3 []) = true) := by
  rw [hf]
  simp only [Decidable.not_and_iff_not_or_not]
 have e : rHid w = if ((((¬ (w.length : Int) = 8 ∨ ¬ w.getD 2 [] = [97, 116]) ∨ ¬ w.getD 4 [] = [98, 101, 104, 105, 110, 100]) ∨ ¬ w.getD 6 [] = [112, 111, 114, 116, 115]) ∨ ¬ vname (w.getD 1 []) = true) ∨ ¬ vname (w.getD 3 []) = true then (4, hid0) else
   if ¬ (addr (w.getD 5 [])).2 = true ∨ ¬ (portsT (w.getD 7 [])).2 = true then (4, hid0) else
   if (portsT (w.getD 7 [])).1.lo < 1024 then (2, hid0) else (0, ⟨w.getD 1 [], w.getD 3 [], (addr (w.getD 5 [])).1, (portsT (w.getD 7 [])).1⟩) := ite_congr (propext hk.symm) (fun _ => rfl) (fun _ => rfl)
 rw [e]
 clear e hk hf
 (refine PFun.of hT Tryz.func135 rfl fun B hD => ?_; refine pw_norm rfl ?_)
 have hw5 := hw.at 5
 have hw7 := hw.at 7
 have hpo := @portsT_ok (w.getD 7 [])
 (repeat' (first | (refine zDr [[0,1,2,3,4,5,6,7,8],[9],[10]] ?_; refine zDn ?_) | refine zS ?_ | refine zD ?_ | refine po_both ?_ ?_ | refine pwt_both ?_ ?_ | refine pwt_fork ?_ | refine pwt_lin ?_ | (refine po_test rfl rfl rfl rfl zB ?_ ?_ <;> intro hb <;> first | exact zX | refine zDn ?_) | refine zq5 ?_ | refine zq6 ?_ | (refine zT ?_ ?_ <;> intro h <;> first | exact zX | refine zNq ?_)))
 ·rw [if_pos h]; exact ret2 _ rfl rfl rfl
 ·rename_i g0; rw [if_neg g0, if_pos h]; exact ret2 _ rfl rfl rfl
 ·rename_i g0 g1
  have hpo := hpo (Decidable.not_not.1 fun q => g1 (.inr q))
  rw [if_neg g0, if_neg g1, if_pos (by omega)]; exact ret2 _ rfl rfl rfl
 ·rename_i g0 g1; rw [if_neg g0, if_neg g1, if_neg (by omega)]; exact ret2 _ rfl rfl rfl
instance (w : List Str) : ConF Tryz.prog Gl 134 [.sl (w.map .str)] (w.getD 0 [] = [112, 117, 98, 108, 105, 115, 104] ∧ WOk w) (.tup [ePub (rPub w).2, .int .i64 (rPub w).1]) := ⟨e134, fun h => c_rPublish w h.1 h.2⟩
instance (w : List Str) : ConF Tryz.prog Gl 135 [.sl (w.map .str)] (w.getD 0 [] = [104, 105, 100, 101] ∧ WOk w) (.tup [eHid (rHid w).2, .int .i64 (rHid w).1]) := ⟨e135, fun h => c_rHide w h.1 h.2⟩
end Go.Proofs.YtkaobkjcjodffaaGreatDoor
