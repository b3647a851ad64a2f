/-
 The program's and the reference's Decide, and their tests of the ports.
 The reference's Decide.
 Calls of generators by contracts on hand: what they draw is some value of a kind; the tape moves on.
-/
import Derived.Test.YtokclomhkggikaaGreatDoorKU4
import Derived.Test.YtokclomhkggikaaGreatDoorKA2
import Derived.Test.YtokclomhkggikaaGreatDoorJPwApX
import Derived.Test.YtokclomhkggikaaGreatDoorKB11
import Derived.Test.YtokclomhkggikaaGreatDoorJPwAuto
set_option maxHeartbeats 20000000
set_option maxRecDepth 100000
namespace Go.Proofs.YtokclomhkggikaaGreatDoor
open Go Go.Pw
section
variable {Gl : Glob}
attribute [local irreducible] PW PWL OpP PCalls PWO bokB hinB bhas PWT bothT tComplete rComplete tabOk initH decT clsP pcont rcont lhas
instance i_tComplete (a : List TDev) (b : List TLink) (c : List TEdge) (d : List TPfx) (n : Int) : ConF Tryz.prog Gl 62 [.agg [.sl (a.map eDev), .sl (b.map eLink), .sl (c.map eEdge), .sl (d.map ePfx), .int .i64 n]] True (.bool (tComplete ⟨a, b, c, d, n⟩)) := ⟨e62, fun _ => c39 ⟨a, b, c, d, n⟩⟩
instance i_rComplete (a : List TDev) (b : List TLink) (c : List TEdge) (d : List TPfx) (n : Int) : ConF Tryz.prog Gl 74 [.agg [.sl (a.map eDev), .sl (b.map eLink), .sl (c.map eEdge), .sl (d.map ePfx), .int .i64 n]] (Small c) (.bool (rComplete ⟨a, b, c, d, n⟩)) := ⟨e74, fun h => c73 ⟨a, b, c, d, n⟩ h⟩
instance i_pcont (a b x : Int) : ConF Tryz.prog Gl 29 [.agg [.int .u32 a, .int .i64 b], .int .u32 x] True (.bool (pcont ⟨a, b⟩ x)) := ⟨e29, fun _ => c57 ⟨a, b⟩ x⟩
instance i_rcont (a b x : Int) : ConF Tryz.prog Gl 33 [.agg [.int .u32 a, .int .i64 b], .int .u32 x] True (.bool (rcont ⟨a, b⟩ x)) := ⟨e33, fun _ => c23 ⟨a, b⟩ x⟩
def isE (t : Topo) (e : Int) : Bool := decide (0 ≤ e) && decide (e < t.edges.length)
theorem c_isEdge (t : Topo) (e : Int) : PFun Tryz.prog Gl 63 [eTopo t, .int .i64 e] fun r => r = .bool (isE t e) := by
 (refine PFun.of hT Tryz.func63 rfl fun B hD => ?_; refine pw_norm rfl ?_)
 (repeat' (first | refine zS ?_ | refine zq5 ?_ | refine zq6 ?_ | (refine zT ?_ ?_ <;> intro h <;> first | exact zX | refine zNq ?_)))
 all_goals refine ret1 _ rfl ?_ rfl
 all_goals refine congrArg PV.bool (Bool.eq_iff_iff.2 ?_)
 all_goals unfold isE
 all_goals simp
 all_goals omega
instance i_isEdge (a : List TDev) (b : List TLink) (c : List TEdge) (d : List TPfx) (n e : Int) : ConF Tryz.prog Gl 63 [.agg [.sl (a.map eDev), .sl (b.map eLink), .sl (c.map eEdge), .sl (d.map ePfx), .int .i64 n], .int .i64 e] True (.bool (isE ⟨a, b, c, d, n⟩ e)) := ⟨e63, fun _ => c_isEdge ⟨a, b, c, d, n⟩ e⟩
def portsE (t : Topo) (x y : TPort) : Int :=
 if ¬tComplete t = true then 1 else if (¬(0 ≤ x.edge ∧ x.edge < t.edges.length) ∨ ¬(0 ≤ y.edge ∧ y.edge < t.edges.length)) ∨ x.edge = y.edge then 2
 else if (¬tabOk x.ing = true ∨ ¬tabOk y.egr = true) ∨ (x.steers.length : Int) > 4096 then 1 else if x.steers.all (fun s => bokB s.m) then 0 else 1
section
variable {t : Topo} {x y : TPort}
theorem portsE_1 (h : ¬tComplete t = true) : portsE t x y = 1 := if_pos h
theorem portsE_2 (h1 : ¬¬tComplete t = true) (h : (¬(0 ≤ x.edge ∧ x.edge < t.edges.length) ∨ ¬(0 ≤ y.edge ∧ y.edge < t.edges.length)) ∨ x.edge = y.edge) : portsE t x y = 2 := (if_neg h1).trans (if_pos h)
theorem portsE_3 (h1 : ¬¬tComplete t = true) (h2 : ¬((¬(0 ≤ x.edge ∧ x.edge < t.edges.length) ∨ ¬(0 ≤ y.edge ∧ y.edge < t.edges.length)) ∨ x.edge = y.edge)) (h : (¬tabOk x.ing = true ∨ ¬tabOk y.egr = true) ∨ (x.steers.length : Int) > 4096) : portsE t x y = 1 := (if_neg h1).trans ((if_neg h2).trans (if_pos h))
theorem portsE_4 (h1 : ¬¬tComplete t = true) (h2 : ¬((¬(0 ≤ x.edge ∧ x.edge < t.edges.length) ∨ ¬(0 ≤ y.edge ∧ y.edge < t.edges.length)) ∨ x.edge = y.edge)) (h3 : ¬((¬tabOk x.ing = true ∨ ¬tabOk y.egr = true) ∨ (x.steers.length : Int) > 4096)) : portsE t x y = if x.steers.all (fun s => bokB s.m) then 0 else 1 := (if_neg h1).trans ((if_neg h2).trans (if_neg h3))
theorem portsE_0 (h : portsE t x y = 0) : tComplete t = true ∧ (0 ≤ x.edge ∧ x.edge < t.edges.length) ∧ (0 ≤ y.edge ∧ y.edge < t.edges.length) ∧ x.edge ≠ y.edge ∧ tabOk x.ing = true ∧ tabOk y.egr = true ∧ x.steers.length ≤ 4096 ∧ x.steers.all (fun s => bokB s.m) = true := by
 by_cases h1 : tComplete t = true
 ·by_cases h2 : (¬(0 ≤ x.edge ∧ x.edge < t.edges.length) ∨ ¬(0 ≤ y.edge ∧ y.edge < t.edges.length)) ∨ x.edge = y.edge
  ·rw [portsE_2 (fun w => w h1) h2] at h
   omega
  ·by_cases h3 : (¬tabOk x.ing = true ∨ ¬tabOk y.egr = true) ∨ (x.steers.length : Int) > 4096
   ·rw [portsE_3 (fun w => w h1) h2 h3] at h
    omega
   ·rw [portsE_4 (fun w => w h1) h2 h3] at h
    have h4 : x.steers.all (fun s => bokB s.m) = true := Decidable.byContradiction fun h4 => by
     rw [if_neg h4] at h
     omega
    have ha : tabOk x.ing = true := Decidable.byContradiction fun w => h3 (.inl (.inl w))
    have hb : tabOk y.egr = true := Decidable.byContradiction fun w => h3 (.inl (.inr w))
    exact ⟨h1, by omega, by omega, by omega, ha, hb, by omega, h4⟩
 ·rw [portsE_1 h1] at h
  omega
end
theorem c_ports (hG : GBoxT Gl) (t : Topo) (x y : TPort) (h1 : x.ing.length < 1000000) (h2 : y.egr.length < 1000000) (h3 : x.steers.length < 1000000) : PFun Tryz.prog Gl 26 [eTopo t, ePort x, ePort y] fun r => r = .int .i64 (portsE t x y) := by
 (refine PFun.of hT Tryz.func26 rfl fun B hD => ?_; refine pw_norm rfl ?_)
 (repeat' (first | refine zS ?_ | refine zq5 ?_ | refine zq6 ?_ | (refine zT ?_ ?_ <;> intro h <;> first | exact zX | refine zNq ?_)))
 ·refine ret1 _ rfl ?_ rfl
  exact congrArg (PV.int .i64) (portsE_1 h).symm
 ·rename_i h4
  refine ret1 _ rfl ?_ rfl
  exact congrArg (PV.int .i64) (portsE_2 h4 h).symm
 ·rename_i h4 h5
  refine ret1 _ rfl ?_ rfl
  exact congrArg (PV.int .i64) (portsE_3 h4 h5 h).symm
 ·rename_i h4 h5
  have hE := portsE_4 (t := t) (x := x) (y := y) h4 h5 h
  refine pw_for hD (fun i : Nat => [(53, .int .i64 i)]) (fun _ => [.box (eTopo t).cells, .box (ePort x).cells, .box (ePort y).cells]) (fun i => i ≤ x.steers.length ∧ all_to (fun s => bokB s.m) x.steers i) (fun i => x.steers.length - i) 0 ⟨Nat.zero_le _, fun j h => by omega⟩ 3 rfl (fun _ => rfl) zLes (fun _ => rfl) (fun _ => rfl) zLe ?_
  clear h h4 h5
  rintro i ⟨hi, hn⟩
  refine zNq ?_
  (repeat' (first | refine zS ?_ | refine zq5 ?_ | refine zq6 ?_ | (refine zT ?_ ?_ <;> intro h <;> first | exact zX | refine zNq ?_)))
  ·refine ret1 _ rfl ?_ rfl
   rw [hE, all_hit (p := fun s : TSteer => bokB s.m) (by omega) h]
   rfl
  ·exact ⟨i + 1, ⟨by omega, all_to_succ hn (Decidable.not_not.1 h)⟩, by omega, zLe, zLes⟩
  ·refine ret1 _ rfl ?_ rfl
   obtain rfl : i = x.steers.length := by omega
   rw [hE, all_end (p := fun s : TSteer => bokB s.m) hn]
   rfl
instance i_ports (a : List TDev) (b : List TLink) (c : List TEdge) (d : List TPfx) (n : Int) (e : Int) (A B : List TRule) (C : List TMove) (D : List THide) (F : List TSteer) (e' : Int) (A' B' : List TRule) (C' : List TMove) (D' : List THide) (F' : List TSteer) : ConF Tryz.prog Gl 26 [.agg [.sl (a.map eDev), .sl (b.map eLink), .sl (c.map eEdge), .sl (d.map ePfx), .int .i64 n], .agg [.int .i64 e, .sl (A.map eRule), .sl (B.map eRule), .sl (C.map eMove), .sl (D.map eHide), .sl (F.map eSteer)], .agg [.int .i64 e', .sl (A'.map eRule), .sl (B'.map eRule), .sl (C'.map eMove), .sl (D'.map eHide), .sl (F'.map eSteer)]] (((GBoxT Gl ∧ A.length < 1000000) ∧ B'.length < 1000000) ∧ F.length < 1000000) (.int .i64 (portsE ⟨a, b, c, d, n⟩ ⟨e, A, B, C, D, F⟩ ⟨e', A', B', C', D', F'⟩)) := ⟨e26, fun h => c_ports h.1.1.1 ⟨a, b, c, d, n⟩ ⟨e, A, B, C, D, F⟩ ⟨e', A', B', C', D', F'⟩ h.1.1.2 h.1.2 h.2⟩
theorem c_fault (t : Topo) (x y : TPort) (hT' : TIn t) (hS : Small t.edges) (h1 : x.ing.length < 1000000) (h2 : y.egr.length < 1000000) (h3 : x.steers.length < 1000000) : PFun Tryz.prog Gl 32 [eTopo t, ePort x, ePort y] fun r => r = .int .i64 (portsE t x y) := by
 have hC := comp_eq t hT'
 have hS' : t.edges.length < 1099511627776 := by unfold Small at hS; omega
 (refine PFun.of hT Tryz.func32 rfl fun B hD => ?_; refine pw_norm rfl ?_)
 (repeat' (first | refine zS ?_ | refine zq5 ?_ | refine zq6 ?_ | (refine zT ?_ ?_ <;> intro h <;> first | exact zX | refine zNq ?_)))
 ·refine ret1 _ rfl ?_ rfl
  exact congrArg (PV.int .i64) (portsE_1 (hC ▸ h)).symm
 ·rename_i h4
  refine ret1 _ rfl ?_ rfl
  exact congrArg (PV.int .i64) (portsE_2 (hC ▸ h4) (by omega)).symm
 ·rename_i h4 h5
  refine ret1 _ rfl ?_ rfl
  exact congrArg (PV.int .i64) (portsE_3 (hC ▸ h4) (by omega) h).symm
 ·rename_i h4 h5
  have hE := portsE_4 (t := t) (x := x) (y := y) (hC ▸ h4) (by omega) h
  refine pw_for hD (fun i : Nat => [(7, .int .i64 i)]) (fun _ => [.box (eTopo t).cells, .box (ePort x).cells, .box (ePort y).cells]) (fun i => i ≤ x.steers.length ∧ all_to (fun s => bokB s.m) x.steers i) (fun i => x.steers.length - i) 0 ⟨Nat.zero_le _, fun j h => by omega⟩ 3 rfl (fun _ => rfl) zLes (fun _ => rfl) (fun _ => rfl) zLe ?_
  clear h h4 h5
  rintro i ⟨hi, hn⟩
  refine zNq ?_
  (repeat' (first | refine zS ?_ | refine zq5 ?_ | refine zq6 ?_ | (refine zT ?_ ?_ <;> intro h <;> first | exact zX | refine zNq ?_)))
  ·refine ret1 _ rfl ?_ rfl
   rw [hE, all_hit (p := fun s : TSteer => bokB s.m) (by omega) h]
   rfl
  ·exact ⟨i + 1, ⟨by omega, all_to_succ hn (Decidable.not_not.1 h)⟩, by omega, zLe, zLes⟩
  ·refine ret1 _ rfl ?_ rfl
   obtain rfl : i = x.steers.length := by omega
   rw [hE, all_end (p := fun s : TSteer => bokB s.m) hn]
   rfl
instance i_fault (a : List TDev) (b : List TLink) (c : List TEdge) (d : List TPfx) (n : Int) (e : Int) (A B : List TRule) (C : List TMove) (D : List THide) (F : List TSteer) (e' : Int) (A' B' : List TRule) (C' : List TMove) (D' : List THide) (F' : List TSteer) : ConF Tryz.prog Gl 32 [.agg [.sl (a.map eDev), .sl (b.map eLink), .sl (c.map eEdge), .sl (d.map ePfx), .int .i64 n], .agg [.int .i64 e, .sl (A.map eRule), .sl (B.map eRule), .sl (C.map eMove), .sl (D.map eHide), .sl (F.map eSteer)], .agg [.int .i64 e', .sl (A'.map eRule), .sl (B'.map eRule), .sl (C'.map eMove), .sl (D'.map eHide), .sl (F'.map eSteer)]] ((((TIn ⟨a, b, c, d, n⟩ ∧ Small c) ∧ A.length < 1000000) ∧ B'.length < 1000000) ∧ F.length < 1000000) (.int .i64 (portsE ⟨a, b, c, d, n⟩ ⟨e, A, B, C, D, F⟩ ⟨e', A', B', C', D', F'⟩)) := ⟨e32, fun h => c_fault ⟨a, b, c, d, n⟩ ⟨e, A, B, C, D, F⟩ ⟨e', A', B', C', D', F'⟩ h.1.1.1.1 h.1.1.1.2 h.1.1.2 h.1.2 h.2⟩
theorem bhas_bxI (a b c d e f : Int) (q : THdr) (hq : HdrIn q) : bhas (bxI a b c d e f) q = true ↔ ((a ≤ b ∧ b ≤ 255) ∧ (c ≤ d ∧ d ≤ 65535) ∧ e ≤ f ∧ f ≤ 65535) ∧ (a ≤ q.proto ∧ q.proto ≤ b) ∧ (c ≤ q.sp ∧ q.sp ≤ d) ∧ e ≤ q.dp ∧ q.dp ≤ f := by
 obtain ⟨h1, h2, -, -, -⟩ := hq
 unfold bhas bokB hinB
 rw [show List.range 5 = [0, 1, 2, 3, 4] from rfl]
 simp only [List.all_cons, List.all_nil, Bool.and_eq_true, decide_eq_true_eq, Bool.and_true]
 simp only [bxI, TBox.get, THdr.pt, topF]
 constructor <;> intro h <;> omega
theorem lhas_init (q : THdr) (hq : HdrIn q) : lhas initL q = initH q := by
 rw [Bool.eq_iff_iff, initH_iff]
 unfold lhas
 rw [List.any_eq_true]
 obtain ⟨-, -, h3, h4, h5⟩ := id hq
 simp only [initL, List.mem_cons, List.mem_nil_iff, or_false, exists_eq_or_imp, exists_eq_left, bhas_bxI _ _ _ _ _ _ q hq]
 constructor <;> intro h <;> omega
def decP (t : Topo) (x y : TPort) (q : THdr) : Bool :=
 decide (portsE t x y = 0) && initH q && pcont (t.edges.getD x.edge.toNat default).pfx q.src && pcont (t.edges.getD y.edge.toNat default).pfx q.dst && (decT x.ing q && decT y.egr q)
def decC (t : Topo) (x y : TPort) (q : THdr) : Str := if decP t x y q then clsP x q else []
theorem dec_no {t : Topo} {x y : TPort} {q : THdr} (h : decP t x y q = false) : (PV.tup [.bool false, .str []] : PV) = .tup [.bool (decP t x y q), .str (decC t x y q)] := by
 unfold decC
 rw [h]
 rfl
theorem dec_yes {t : Topo} {x y : TPort} {q : THdr} (h : decP t x y q = true) : (PV.tup [.bool true, .str (clsP x q)] : PV) = .tup [.bool (decP t x y q), .str (decC t x y q)] := by
 unfold decC
 rw [h, if_pos rfl]
theorem decP_iff (t : Topo) (x y : TPort) (q : THdr) : decP t x y q = true ↔ portsE t x y = 0 ∧ initH q = true ∧ (pcont (t.edges.getD x.edge.toNat default).pfx q.src = true ∧ pcont (t.edges.getD y.edge.toNat default).pfx q.dst = true) ∧ decT x.ing q = true ∧ decT y.egr q = true := by
 unfold decP
 simp only [Bool.and_eq_true, decide_eq_true_eq, and_assoc]
theorem c_tDecide (hG : GBoxT Gl) (t : Topo) (x y : TPort) (q : THdr) (hq : HdrIn q) (hS : Small t.edges) (h1 : x.ing.length < 1000000) (h2 : y.egr.length < 1000000) (h3 : x.steers.length < 1000000) : PFun Tryz.prog Gl 10 [eTopo t, ePort x, ePort y, eHdr q] fun r => r = .tup [.bool (decP t x y q), .str (decC t x y q)] := by
 have hq' : HdrIn ⟨q.src, q.dst, q.proto, q.sp, q.dp⟩ := hq
 have hI : initL.length < 1000000 := by decide
 have hS' : t.edges.length < 1099511627776 := by unfold Small at hS; omega
 (refine PFun.of hT Tryz.func10 rfl fun B hD => ?_; refine pw_norm rfl ?_)
 (repeat' (first | (refine zDr [[0,1,2],[3],[4,5,7],[6,8],[9,10]] ?_; refine zDn ?_) | (refine zDr [[0,1,2,3,4,5,6,7,8],[9],[10,11,12,13,14,15,16,17,18,19,20],[21],[22,23]] ?_; refine zDn ?_) | refine zS ?_ | refine zD ?_ | refine po_both ?_ ?_ | refine pwt_both ?_ ?_ | refine pwt_fork ?_ | refine pwt_lin ?_ | (refine po_test rfl rfl rfl rfl zB ?_ ?_ <;> intro hb <;> first | exact zX | refine zDn ?_) | refine zq5 ?_ | refine zq6 ?_ | (refine zT ?_ ?_ <;> intro h <;> first | exact zX | refine zNq ?_)))
 ·refine ret1 _ rfl ?_ rfl
  refine dec_no (Bool.eq_false_iff.2 fun w => hb ((decP_iff ..).1 w).1)
 ·refine ret1 _ rfl ?_ rfl
  refine dec_no (Bool.eq_false_iff.2 fun w => h ((lhas_init q hq).trans ((decP_iff ..).1 w).2.1))
 ·have hE := Decidable.not_not.1 hb
  have hh := Decidable.not_not.1 h
  have hb1 := (portsE_0 hE).2.1
  have hb2 := (portsE_0 hE).2.2.1
  dsimp only at hb1 hb2
  clear hb h
  (refine po_val rfl rfl (v_nth (n := x.edge.toNat) hT rfl rfl rfl rfl rfl (by omega) (by omega) (fun _ => rfl)) ?_; refine zDn ?_)
  (repeat' (first | (refine zDr [[0,1,2],[3],[4,5,7],[6,8],[9,10]] ?_; refine zDn ?_) | (refine zDr [[0,1,2,3,4,5,6,7,8],[9],[10,11,12,13,14,15,16,17,18,19,20],[21],[22,23]] ?_; refine zDn ?_) | refine zS ?_ | refine zD ?_ | refine po_both ?_ ?_ | refine pwt_both ?_ ?_ | refine pwt_fork ?_ | refine pwt_lin ?_ | (refine po_test rfl rfl rfl rfl zB ?_ ?_ <;> intro hb <;> first | exact zX | refine zDn ?_) | refine zq5 ?_ | refine zq6 ?_ | (refine zT ?_ ?_ <;> intro h <;> first | exact zX | refine zNq ?_)))
  ·refine ret1 _ rfl ?_ rfl
   refine dec_no (Bool.eq_false_iff.2 fun w => hb ((decP_iff ..).1 w).2.2.1.1)
  ·have hp := Decidable.not_not.1 hb
   clear hb
   (refine po_gval rfl rfl rfl (v_nth (n := y.edge.toNat) hT rfl rfl rfl rfl rfl (by omega) (by omega) (fun _ => rfl)) ?_; refine zDn ?_)
   (repeat' (first | (refine zDr [[0,1,2],[3],[4,5,7],[6,8],[9,10]] ?_; refine zDn ?_) | (refine zDr [[0,1,2,3,4,5,6,7,8],[9],[10,11,12,13,14,15,16,17,18,19,20],[21],[22,23]] ?_; refine zDn ?_) | refine zS ?_ | refine zD ?_ | refine po_both ?_ ?_ | refine pwt_both ?_ ?_ | refine pwt_fork ?_ | refine pwt_lin ?_ | (refine po_test rfl rfl rfl rfl zB ?_ ?_ <;> intro hb <;> first | exact zX | refine zDn ?_) | refine zq5 ?_ | refine zq6 ?_ | (refine zT ?_ ?_ <;> intro h <;> first | exact zX | refine zNq ?_)))
   ·refine ret1 _ rfl ?_ rfl
    refine dec_no (Bool.eq_false_iff.2 fun w => h ((decP_iff ..).1 w).2.2.1.2)
   ·refine ret1 _ rfl ?_ rfl
    refine dec_no (Bool.eq_false_iff.2 fun w => h.elim (fun z => z ((decP_iff ..).1 w).2.2.2.1) fun z => z ((decP_iff ..).1 w).2.2.2.2)
   ·rename_i hp2
    refine ret1 _ rfl ?_ rfl
    refine dec_yes ((decP_iff ..).2 ⟨hE, (lhas_init q hq).symm.trans hh, ⟨hp, Decidable.not_not.1 hp2⟩, Decidable.not_not.1 fun z => h (.inl z), Decidable.not_not.1 fun z => h (.inr z)⟩)
end
section
variable {Gl : Glob}
attribute [local irreducible] PW PWL OpP PCalls PWO bokB hinB bhas PWT bothT tComplete rComplete tabOk initH decT clsP pcont rcont lhas portsE
theorem rcont_at {t : Topo} (hT' : TIn t) {e : Int} (he : 0 ≤ e ∧ e < t.edges.length) {a : Int} (ha : 0 ≤ a ∧ a < 4294967296) : rcont (t.edges.getD e.toNat default).pfx a = pcont (t.edges.getD e.toNat default).pfx a := by
 refine cont_eq _ _ ?_ ha
 refine hT'.edges _ ?_
 rw [List.getD, List.getElem?_eq_getElem (show e.toNat < t.edges.length by omega)]
 exact List.getElem_mem _
theorem c_rDecideP (t : Topo) (x y : TPort) (q : THdr) (hT' : TIn t) (hq : HdrIn q) (hS : Small t.edges) (h1 : x.ing.length < 1000000) (h2 : y.egr.length < 1000000) (h3 : x.steers.length < 1000000) : PFun Tryz.prog Gl 11 [eTopo t, ePort x, ePort y, eHdr q] fun r => r = .tup [.bool (decP t x y q), .str (decC t x y q)] := by
 have hq' : HdrIn ⟨q.src, q.dst, q.proto, q.sp, q.dp⟩ := hq
 have hT2 : TIn ⟨t.devs, t.links, t.edges, t.pools, t.tol⟩ := hT'
 have hS' : t.edges.length < 1099511627776 := by unfold Small at hS; omega
 (refine PFun.of hT Tryz.func11 rfl fun B hD => ?_; refine pw_norm rfl ?_)
 (repeat' (first | (refine zDr [[0,1,2],[3],[4,5,6],[7],[8,9,10,11,12,13,14,15,16,17,18,19],[20],[21,22,23,24,25,26,27,28,29,30,31,32],[33],[34,35]] ?_; refine zDn ?_) | refine zS ?_ | refine zD ?_ | refine po_both ?_ ?_ | refine pwt_both ?_ ?_ | refine pwt_fork ?_ | refine pwt_lin ?_ | (refine po_test rfl rfl rfl rfl zB ?_ ?_ <;> intro hb <;> first | exact zX | refine zDn ?_) | refine zq5 ?_ | refine zq6 ?_ | (refine zT ?_ ?_ <;> intro h <;> first | exact zX | refine zNq ?_)))
 ·refine ret1 _ rfl ?_ rfl
  refine dec_no (Bool.eq_false_iff.2 fun w => hb ((decP_iff ..).1 w).1)
 ·refine ret1 _ rfl ?_ rfl
  refine dec_no (Bool.eq_false_iff.2 fun w => hb ((decP_iff ..).1 w).2.1)
 ·rename_i hz
  have hE := Decidable.not_not.1 hz
  have hh := Decidable.not_not.1 hb
  have hb1 := (portsE_0 hE).2.1
  have hb2 := (portsE_0 hE).2.2.1
  dsimp only at hb1 hb2
  clear hb hz
  (refine po_gval rfl rfl rfl (v_nth (n := x.edge.toNat) hT rfl rfl rfl rfl rfl (by omega) (by omega) (fun _ => rfl)) ?_; refine zDn ?_)
  (repeat' (first | (refine zDr [[0,1,2],[3],[4,5,6],[7],[8,9,10,11,12,13,14,15,16,17,18,19],[20],[21,22,23,24,25,26,27,28,29,30,31,32],[33],[34,35]] ?_; refine zDn ?_) | refine zS ?_ | refine zD ?_ | refine po_both ?_ ?_ | refine pwt_both ?_ ?_ | refine pwt_fork ?_ | refine pwt_lin ?_ | (refine po_test rfl rfl rfl rfl zB ?_ ?_ <;> intro hb <;> first | exact zX | refine zDn ?_) | refine zq5 ?_ | refine zq6 ?_ | (refine zT ?_ ?_ <;> intro h <;> first | exact zX | refine zNq ?_)))
  ·refine ret1 _ rfl ?_ rfl
   refine dec_no (Bool.eq_false_iff.2 fun w => hb ((rcont_at hT' hb1 hq.src).trans ((decP_iff ..).1 w).2.2.1.1))
  ·have hp := Decidable.not_not.1 hb
   clear hb
   (refine po_gval rfl rfl rfl (v_nth (n := y.edge.toNat) hT rfl rfl rfl rfl rfl (by omega) (by omega) (fun _ => rfl)) ?_; refine zDn ?_)
   (repeat' (first | (refine zDr [[0,1,2],[3],[4,5,6],[7],[8,9,10,11,12,13,14,15,16,17,18,19],[20],[21,22,23,24,25,26,27,28,29,30,31,32],[33],[34,35]] ?_; refine zDn ?_) | refine zS ?_ | refine zD ?_ | refine po_both ?_ ?_ | refine pwt_both ?_ ?_ | refine pwt_fork ?_ | refine pwt_lin ?_ | (refine po_test rfl rfl rfl rfl zB ?_ ?_ <;> intro hb <;> first | exact zX | refine zDn ?_) | refine zq5 ?_ | refine zq6 ?_ | (refine zT ?_ ?_ <;> intro h <;> first | exact zX | refine zNq ?_)))
   ·refine ret1 _ rfl ?_ rfl
    refine dec_no (Bool.eq_false_iff.2 fun w => h ((rcont_at hT' hb2 hq.dst).trans ((decP_iff ..).1 w).2.2.1.2))
   ·refine ret1 _ rfl ?_ rfl
    refine dec_no (Bool.eq_false_iff.2 fun w => h.elim (fun z => z ((decP_iff ..).1 w).2.2.2.1) fun z => z ((decP_iff ..).1 w).2.2.2.2)
   ·rename_i hp2
    refine ret1 _ rfl ?_ rfl
    refine dec_yes ((decP_iff ..).2 ⟨hE, hh, ⟨(rcont_at hT' hb1 hq.src).symm.trans hp, (rcont_at hT' hb2 hq.dst).symm.trans (Decidable.not_not.1 hp2)⟩, Decidable.not_not.1 fun z => h (.inl z), Decidable.not_not.1 fun z => h (.inr z)⟩)
end
section
variable {Gl : Glob}
class GenC (Gl : Glob) (f : FuncId) (args : List PV) (pre : outParam Prop) (α : outParam Type) (R : outParam (α → Prop)) (e : outParam (α → PV)) : Prop where
 ent : Enters Tryz.prog f
 gen : pre → ∀ (l : List Int), Tp l → ∀ (i : Nat), i ≤ l.length → Gen Gl f args l i fun r => ∃ x, R x ∧ r = e x
section
variable {B : Base} {env : List PV} {st : List PObj} {o : Oper}
theorem op_gen {K : PV → List PObj → Prop} {fop : Operand} {args : Array Operand} {ats : Array TypeId} {f : FuncId} {full : List PV} {st' : List PObj} {l : List Int} {i : Nat} {α : Type} {R : α → Prop} {e : α → PV} {pre : Prop}
  (ho : o.op = .call ⟨.value fop, args, ats⟩) (hf : pe env fop = .fn f []) (hn : (forceV (args.toList.map (pe env)) fun q => some q) = some (.ptr 0 0 :: full)) (hst : st = tape l i :: st') (hc : GenC Gl f full pre α R e) (hp : pre) (hl : Tp l) (hi : i ≤ l.length)
  (hr : full.all (PV.refs (fun _ => false) 5) = true) (he : ∀ x, (e x).refs (fun _ => false) 5 = true) (hK : ∀ (x : α) (j : Nat), R x → j ≤ l.length → K (e x) (tape l j :: st')) : OpP Tryz.prog Gl B o env st K := by
 subst hst
 rw [forceV_eq] at hn
 have hn : args.toList.map (pe env) = .ptr 0 0 :: full := by injection hn
 have hcs : ∀ j : Nat, ([.sl (l.map eInt), .int .i64 j] : List PV).all (PV.refs (fun _ => false) 5) = true := fun _ => rfl
 refine op_call [0] ho hf hc.ent (by simp) rfl ?_ ?_ (cargs := .ptr 0 0 :: full) (cst := [tape l i]) ?_ ?_ (hc.gen hp l hl i hi) ?_
 ·rw [hn, List.append_nil, List.all_cons, Bool.and_eq_true]
  exact ⟨rfl, List.all_eq_true.2 fun p hp' => PV.refs_mono (fun _ h => by cases h) 5 p (List.all_eq_true.1 hr p hp')⟩
 ·rfl
 ·rw [hn, List.append_nil, List.map_cons]
  have : full.map (PV.ren (idxIn [0]) 5) = full := (List.map_congr_left (g := id) fun p hp' => PV.ren_none 5 p (List.all_eq_true.1 hr p hp')).trans (List.map_id _)
  rw [this]
  exact ⟨.inr (.inl rfl), Le.refl _⟩
 ·show StLe [(tape l i).ren (idxIn [0]) 5] [tape l i]
  unfold tape
  rw [PObj.ren_none (hcs i)]
  exact StLe.refl _
 ·rintro r s ⟨j, ⟨x, hx, rfl⟩, hj, rfl⟩
  refine ⟨PV.refs_true (he x), rfl, ?_⟩
  rw [PV.ren_none 5 _ (he x)]
  have hm : merge [0] (tape l i :: st') ([tape l j].map (PObj.ren (idxOut [0] (tape l i :: st').length) 5)) = tape l j :: st' := by
   unfold tape
   simp only [List.map_cons, List.map_nil, PObj.ren_none (hcs j), merge, List.length_cons, List.length_nil, List.drop_succ_cons, List.drop_nil, List.append_nil]
   show (if [0].contains 0 then [PObj.box [.sl (l.map eInt), .int .i64 j]].getD ([0].idxOf 0) .dead else _) :: mergeAux [0] _ 1 st' = _
   rw [mergeAux_id [0] _ st' 1 fun k hk h1 _ => by
    have : k = 0 := by simpa using hk
    omega]
   rfl
  rw [hm]
  exact hK x j hx hj
end
def intsOf : List PV → Option (IntKind × List Int)
 | [.int k n] => some (k, [n])
 | .int _ n :: l => match intsOf l with
  | some (k, ns) => some (k, n :: ns)
  | none => none
 | _ => none
def strsOf : List PV → Option (List Str)
 | [] => some []
 | .str s :: l => match strsOf l with
  | some ss => some (s :: ss)
  | none => none
 | _ => none
def kindsOk (k : IntKind) : List PV → Bool
 | [] => true
 | .int k' _ :: l => decide (k' = k) && kindsOk k l
 | _ => false
theorem intsOf_get {k : IntKind} : ∀ {xs : List PV} {L : List Int}, intsOf xs = some (k, L) → kindsOk k xs = true → ∀ i, i < xs.length → ∃ v ∈ L, xs[i]? = some (.int k v)
 | [], _, h, _, _, _ => by cases h
 | [x], L, h, hk, i, hi => by
  cases x <;> simp only [intsOf] at h <;> first | (cases h; done) | skip
  cases h
  have : i = 0 := by simpa using hi
  subst this
  exact ⟨_, List.mem_cons_self .., rfl⟩
 | x :: y :: l, L, h, hk, i, hi => by
  cases x <;> simp only [intsOf] at h <;> first | (cases h; done) | skip
  rename_i k' n
  split at h
  ·rename_i k2 ns hns
   cases h
   simp only [kindsOk, Bool.and_eq_true, decide_eq_true_eq] at hk
   cases i with
   | zero => exact ⟨n, List.mem_cons_self .., by rw [hk.1]; rfl⟩
   | succ i =>
    obtain ⟨v, hv, hg⟩ := intsOf_get hns (by simpa [kindsOk] using hk.2) i (by simpa using hi)
    exact ⟨v, List.mem_cons_of_mem _ hv, by simpa using hg⟩
  ·cases h
theorem strsOf_get : ∀ {xs : List PV} {L : List Str}, strsOf xs = some L → ∀ i, i < xs.length → ∃ v ∈ L, xs[i]? = some (.str v)
 | [], _, _, i, hi => by simp at hi
 | x :: l, L, h, i, hi => by
  cases x <;> simp only [strsOf] at h <;> first | (cases h; done) | skip
  rename_i s
  split at h
  ·rename_i ss hss
   cases h
   cases i with
   | zero => exact ⟨s, List.mem_cons_self .., rfl⟩
   | succ i =>
    obtain ⟨v, hv, hg⟩ := strsOf_get hss i (by simpa using hi)
    exact ⟨v, List.mem_cons_of_mem _ hv, by simpa using hg⟩
  ·cases h
section
variable {B : Base} {env : List PV} {st : List PObj} {o : Oper}
theorem op_pickI {K : PV → List PObj → Prop} {t : TypeId} {x y : Operand} {k k' : IntKind} {n : Int} {xs : List PV} {L : List Int} (ho : o.op = .indexAddr t x y) {el s b z1 z2 : Nat} {z3 : Option (List PV)} (ht : tys[t]? = some ⟨.sl el s b, z1, z2, z3⟩)
  (hx : pe env x = .sl xs) (hL : intsOf xs = some (k, L)) (hk : kindsOk k xs = true) (hy : pe env y = .int k' n) (h0 : 0 ≤ n) (h1 : n.toNat < xs.length) (hs : 1 = s) (hK : ∀ v, v ∈ L → K (.vptr [.int k v]) st) : OpP Tryz.prog Gl B o env st K := by
 obtain ⟨v, hv, hg⟩ := intsOf_get hL hk n.toNat h1
 exact op_of (v_index (p := .int k v) hT ho ht hx hy h0 hg hs) (hK v hv)
theorem op_pickS {K : PV → List PObj → Prop} {t : TypeId} {x y : Operand} {k' : IntKind} {n : Int} {xs : List PV} {L : List Str} (ho : o.op = .indexAddr t x y) {el s b z1 z2 : Nat} {z3 : Option (List PV)} (ht : tys[t]? = some ⟨.sl el s b, z1, z2, z3⟩)
  (hx : pe env x = .sl xs) (hL : strsOf xs = some L) (hy : pe env y = .int k' n) (h0 : 0 ≤ n) (h1 : n.toNat < xs.length) (hs : 1 = s) (hK : ∀ v, v ∈ L → K (.vptr [.str v]) st) : OpP Tryz.prog Gl B o env st K := by
 obtain ⟨v, hv, hg⟩ := strsOf_get hL n.toNat h1
 exact op_of (v_index (p := .str v) hT ho ht hx hy h0 hg hs) (hK v hv)
variable {ops : Array Oper} {E : List PV → List PObj → List (Nat × Nat) → Prop} {rest : List (Nat × Bool)} {i : Nat} {D : List (Nat × Nat)}
theorem po_pickI {t : TypeId} {x y : Operand} {k k' : IntKind} {n : Int} {xs : List PV} {L : List Int} (hi : ops[i]? = some o) (hg : o.guard = none) (ho : o.op = .indexAddr t x y) {el s b z1 z2 : Nat} {z3 : Option (List PV)} (ht : tys[t]? = some ⟨.sl el s b, z1, z2, z3⟩)
  (hx : pe (maskE (o.looksAt ops) 0 env) x = .sl xs) (hL : intsOf xs = some (k, L)) (hk : kindsOk k xs = true) (hy : pe (maskE (o.looksAt ops) 0 env) y = .int k' n) (h0 : 0 ≤ n) (h1 : n.toNat < xs.length) (hs : 1 = s) (hr : ∀ v, v ∈ L → PWO Tryz.prog Gl B ops E rest (putE env o.dst (.vptr [.int k v])) st D) : PWO Tryz.prog Gl B ops E ((i, true) :: rest) env st D := by
 obtain ⟨v, hv, hq⟩ := intsOf_get hL hk n.toNat h1
 exact po_val hi hg (v_index (p := .int k v) hT ho ht hx hy h0 hq hs) (hr v hv)
theorem po_pickS {t : TypeId} {x y : Operand} {k' : IntKind} {n : Int} {xs : List PV} {L : List Str} (hi : ops[i]? = some o) (hg : o.guard = none) (ho : o.op = .indexAddr t x y) {el s b z1 z2 : Nat} {z3 : Option (List PV)} (ht : tys[t]? = some ⟨.sl el s b, z1, z2, z3⟩)
  (hx : pe (maskE (o.looksAt ops) 0 env) x = .sl xs) (hL : strsOf xs = some L) (hy : pe (maskE (o.looksAt ops) 0 env) y = .int k' n) (h0 : 0 ≤ n) (h1 : n.toNat < xs.length) (hs : 1 = s) (hr : ∀ v, v ∈ L → PWO Tryz.prog Gl B ops E rest (putE env o.dst (.vptr [.str v])) st D) : PWO Tryz.prog Gl B ops E ((i, true) :: rest) env st D := by
 obtain ⟨v, hv, hq⟩ := strsOf_get hL n.toNat h1
 exact po_val hi hg (v_index (p := .str v) hT ho ht hx hy h0 hq hs) (hr v hv)
end
theorem ret_gen {tys' : List TI} {rs : List ResultVar} {env : List PV} {st : List PObj} {l : List Int} {α : Type} {R : α → Prop} {e : α → PV} {st' : List PObj} (j : Nat) (x : α) (r : PV) (h1 : resP tys' env st rs = some r) (hx : R x) (hj : j ≤ l.length) (hr : r = e x) (hst : st = tape l j :: st') (he : ∀ x, (e x).refs (fun _ => false) 5 = true) :
  _root_.Go.Pw.retF tys' rs 1 (fun r s => ∃ i' : Nat, (∃ x, R x ∧ r = e x) ∧ i' ≤ l.length ∧ s = [tape l i']) .ret env st := by
 subst hr hst
 refine ⟨_, _, _, h1, ⟨j, ⟨x, hx, rfl⟩, hj, rfl⟩, .inr (.inl rfl), ?_, PV.refs_mono (fun _ h => by cases h) 5 _ (he x), rfl⟩
 rw [List.take_succ_cons, List.take_zero]
 exact ⟨.inr (.inl rfl), trivial⟩
theorem zg1 {G X : Prop} (k : X) (h : Kp X → G := by (intro zk; (first | refine pl_op rfl (op_gen rfl rfl rfl rfl (by exact inferInstance) (by repeat' (first | exact trivial | assumption | apply And.intro | omega)) (by assumption) (by assumption) (by rfl) (fun _ => rfl) ?_) | refine pl_on rfl rfl (op_gen rfl rfl rfl rfl (by exact inferInstance) (by repeat' (first | exact trivial | assumption | apply And.intro | omega)) (by assumption) (by assumption) (by rfl) (fun _ => rfl) ?_) | fail); exact Kp.out zk)) : G := h ⟨k⟩
theorem zg2 {G X : Prop} (k : X) (h : Kp X → G := by (intro zk; (first | refine pl_op rfl (op_pickI rfl rfl rfl rfl rfl rfl (by omega) (by simp only [List.length_cons, List.length_nil]; omega) rfl ?_) | refine pl_on rfl rfl (op_pickI rfl rfl rfl rfl rfl rfl (by omega) (by simp only [List.length_cons, List.length_nil]; omega) rfl ?_) | refine pl_op rfl (op_pickS rfl rfl rfl rfl rfl (by omega) (by simp only [List.length_cons, List.length_nil]; omega) rfl ?_) | refine pl_on rfl rfl (op_pickS rfl rfl rfl rfl rfl (by omega) (by simp only [List.length_cons, List.length_nil]; omega) rfl ?_) | fail); exact Kp.out zk)) : G := h ⟨k⟩
theorem zg3 {G X : Prop} (k : X) (h : Kp X → G := by (intro zk; (first | (refine pl_op rfl (op_of (v_min rfl rfl rfl) ?_); refine zNp ?_) | (refine pl_on rfl rfl (op_of (v_min rfl rfl rfl) ?_); refine zNp ?_) | (refine pl_op rfl (op_of (v_max rfl rfl rfl) ?_); refine zNp ?_) | (refine pl_on rfl rfl (op_of (v_max rfl rfl rfl) ?_); refine zNp ?_) | fail); exact Kp.out zk)) : G := h ⟨k⟩
theorem zg4 {G X : Prop} (k : X) (h : Kp X → G := by (intro zk; (first | refine po_step rfl rfl (op_gen rfl rfl rfl rfl (by exact inferInstance) (by repeat' (first | exact trivial | assumption | apply And.intro | omega)) (by assumption) (by assumption) (by rfl) (fun _ => rfl) ?_) | refine po_on rfl rfl rfl (op_gen rfl rfl rfl rfl (by exact inferInstance) (by repeat' (first | exact trivial | assumption | apply And.intro | omega)) (by assumption) (by assumption) (by rfl) (fun _ => rfl) ?_) | fail); exact Kp.out zk)) : G := h ⟨k⟩
theorem zg5 {G X : Prop} (k : X) (h : Kp X → G := by (intro zk; (first | refine po_pickI rfl rfl rfl rfl rfl rfl rfl rfl (by omega) (by simp only [List.length_cons, List.length_nil]; omega) rfl ?_ | refine po_pickS rfl rfl rfl rfl rfl rfl rfl (by omega) (by simp only [List.length_cons, List.length_nil]; omega) rfl ?_ | fail); exact Kp.out zk)) : G := h ⟨k⟩
theorem zg6 {G X : Prop} (k : X) (h : Kp X → G := by (intro zk; (first | (refine po_val rfl rfl (v_min rfl rfl rfl) ?_; refine zDn ?_) | (refine po_val rfl rfl (v_max rfl rfl rfl) ?_; refine zDn ?_) | fail); exact Kp.out zk)) : G := h ⟨k⟩

end
end Go.Proofs.YtokclomhkggikaaGreatDoor