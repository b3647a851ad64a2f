/-
 Boxes: validity and membership, the program's and the reference's.
 Boxes and tables: the reference's, and membership in lists of boxes.
 Tables: validity and decisions, the program's and the reference's.
 slices.IndexFunc and slices.ContainsFunc at boxes; printed by a program of mine.
-/
import Derived.Test.YtokclomhkggikaaGreatDoorKA2
import Derived.Test.YtokclomhkggikaaGreatDoorJPwAuto
set_option maxHeartbeats 20000000
set_option maxRecDepth 100000
namespace Go.Proofs.YtokclomhkggikaaGreatDoor
open Go Go.Pw
section
variable {Gl : Glob}
attribute [local irreducible] PW PWL OpP PCalls PWO
def GBoxT (Gl : Glob) : Prop := GRow Gl 0 [.int .u32 4294967295, .int .u32 4294967295, .int .u32 255, .int .u32 65535, .int .u32 65535]
theorem bokB5 (b : TBox) : bokB b = true ↔ (b.r0.lo ≤ b.r0.hi ∧ b.r0.hi ≤ 4294967295) ∧ (b.r1.lo ≤ b.r1.hi ∧ b.r1.hi ≤ 4294967295) ∧ (b.r2.lo ≤ b.r2.hi ∧ b.r2.hi ≤ 255) ∧ (b.r3.lo ≤ b.r3.hi ∧ b.r3.hi ≤ 65535) ∧ b.r4.lo ≤ b.r4.hi ∧ b.r4.hi ≤ 65535 := by
 rw [bokB_iff]
 constructor
 ·intro h
  exact ⟨h 0 (by decide), h 1 (by decide), h 2 (by decide), h 3 (by decide), h 4 (by decide)⟩
 ·rintro ⟨h0, h1, h2, h3, h4⟩ f hf
  match f, hf with
  | 0, _ => exact h0
  | 1, _ => exact h1
  | 2, _ => exact h2
  | 3, _ => exact h3
  | 4, _ => exact h4
theorem hinB5 (b : TBox) (h : THdr) : hinB b h = true ↔ (b.r0.lo ≤ h.src ∧ h.src ≤ b.r0.hi) ∧ (b.r1.lo ≤ h.dst ∧ h.dst ≤ b.r1.hi) ∧ (b.r2.lo ≤ h.proto ∧ h.proto ≤ b.r2.hi) ∧ (b.r3.lo ≤ h.sp ∧ h.sp ≤ b.r3.hi) ∧ b.r4.lo ≤ h.dp ∧ h.dp ≤ b.r4.hi := by
 rw [hinB_iff]
 constructor
 ·intro h
  exact ⟨h 0 (by decide), h 1 (by decide), h 2 (by decide), h 3 (by decide), h 4 (by decide)⟩
 ·rintro ⟨h0, h1, h2, h3, h4⟩ f hf
  match f, hf with
  | 0, _ => exact h0
  | 1, _ => exact h1
  | 2, _ => exact h2
  | 3, _ => exact h3
  | 4, _ => exact h4
theorem bhas5 (b : TBox) (h : THdr) : bhas b h = true ↔ bokB b = true ∧ (b.r0.lo ≤ h.src ∧ h.src ≤ b.r0.hi) ∧ (b.r1.lo ≤ h.dst ∧ h.dst ≤ b.r1.hi) ∧ (b.r2.lo ≤ h.proto ∧ h.proto ≤ b.r2.hi) ∧ (b.r3.lo ≤ h.sp ∧ h.sp ≤ b.r3.hi) ∧ b.r4.lo ≤ h.dp ∧ h.dp ≤ b.r4.hi := by
 unfold bhas
 rw [Bool.and_eq_true, hinB5]
theorem retT {p : Bool} (h : p = true) : PV.bool true = .bool p := by rw [h]
theorem retF {p : Bool} (h : ¬ p = true) : PV.bool false = .bool p := by rw [Bool.eq_false_iff.2 h]
attribute [local irreducible] bokB hinB bhas
theorem c_bvalid (hG : GBoxT Gl) (b : TBox) : PFun Tryz.prog Gl 65 [eBox b] fun r => r = .bool (bokB b) := by
 unfold GBoxT at hG
 (refine PFun.of hT Tryz.func65 rfl fun B hD => ?_; refine pw_norm rfl ?_)
 (repeat' (first | refine pw_round ?_ | refine pw_rounds 7 ?_ | (refine zDr [[0,1,2,3,4,5,6,7,8,9,10,11,12]] ?_; refine zDn ?_) | refine zS ?_ | refine zD ?_ | refine po_both ?_ ?_ | refine pwt_both ?_ ?_ | refine pwt_fork ?_ | refine pwt_lin ?_ | (refine po_test rfl rfl rfl rfl zB ?_ ?_ <;> intro hb <;> first | exact zX | refine zDn ?_) | refine zq5 ?_ | refine zq6 ?_ | (refine zT ?_ ?_ <;> intro h <;> first | exact zX | refine zNq ?_)))
 all_goals refine ret1 _ rfl ?_ rfl
 all_goals first | exact retF (fun q => by have := (bokB5 b).1 q; omega) | exact retT ((bokB5 b).2 (by omega))
instance iBValid (a0 b0 a1 b1 a2 b2 a3 b3 a4 b4 : Int) : ConF Tryz.prog Gl 65 [.agg [.int .u32 a0, .int .u32 b0, .int .u32 a1, .int .u32 b1, .int .u32 a2, .int .u32 b2, .int .u32 a3, .int .u32 b3, .int .u32 a4, .int .u32 b4]] (GBoxT Gl) (.bool (bokB ⟨⟨a0, b0⟩, ⟨a1, b1⟩, ⟨a2, b2⟩, ⟨a3, b3⟩, ⟨a4, b4⟩⟩)) := ⟨e65, fun h => c_bvalid h ⟨⟨a0, b0⟩, ⟨a1, b1⟩, ⟨a2, b2⟩, ⟨a3, b3⟩, ⟨a4, b4⟩⟩⟩
instance iBValidE (b : TBox) : ConF Tryz.prog Gl 65 [eBox b] (GBoxT Gl) (.bool (bokB b)) := ⟨e65, fun h => c_bvalid h b⟩
theorem c_bvalues (h : THdr) (hh : HdrIn h) : PFun Tryz.prog Gl 113 [eHdr h] fun r => r = .agg [.int .u32 h.src, .int .u32 h.dst, .int .u32 h.proto, .int .u32 h.sp, .int .u32 h.dp] := by
 obtain ⟨h1, h2, h3, h4, h5⟩ := hh
 (refine PFun.of hT Tryz.func113 rfl fun B hD => ?_; refine pw_norm rfl ?_)
 (repeat' (first | refine pw_round ?_ | refine pw_rounds 7 ?_ | refine zS ?_ | refine zD ?_ | refine po_both ?_ ?_ | refine pwt_both ?_ ?_ | refine pwt_fork ?_ | refine pwt_lin ?_ | (refine po_test rfl rfl rfl rfl zB ?_ ?_ <;> intro hb <;> first | exact zX | refine zDn ?_) | (refine zT ?_ ?_ <;> intro h <;> first | exact zX | refine zNq ?_)))
 exact ret1 _ rfl rfl rfl
instance iBValues (s d p x y : Int) : ConF Tryz.prog Gl 113 [.agg [.int .u32 s, .int .u32 d, .int .u8 p, .int .u16 x, .int .u16 y]] (HdrIn ⟨s, d, p, x, y⟩) (.agg [.int .u32 s, .int .u32 d, .int .u32 p, .int .u32 x, .int .u32 y]) := ⟨e113, fun h => c_bvalues ⟨s, d, p, x, y⟩ h⟩
theorem c_bcontains (hG : GBoxT Gl) (b : TBox) (q : THdr) (hh : HdrIn q) : PFun Tryz.prog Gl 68 [eBox b, eHdr q] fun r => r = .bool (bhas b q) := by
 have hh' : HdrIn ⟨q.src, q.dst, q.proto, q.sp, q.dp⟩ := hh
 (refine PFun.of hT Tryz.func68 rfl fun B hD => ?_; refine pw_norm rfl ?_)
 (repeat' (first | refine pw_round ?_ | refine pw_rounds 7 ?_ | refine zS ?_ | refine zD ?_ | refine po_both ?_ ?_ | refine pwt_both ?_ ?_ | refine pwt_fork ?_ | refine pwt_lin ?_ | (refine po_test rfl rfl rfl rfl zB ?_ ?_ <;> intro hb <;> first | exact zX | refine zDn ?_) | refine zq5 ?_ | refine zq6 ?_ | (refine zT ?_ ?_ <;> intro h <;> first | exact zX | refine zNq ?_)))
 all_goals refine ret1 _ rfl ?_ rfl
 all_goals first | exact retF (fun w => absurd ((bhas5 b q).1 w).1 (by assumption)) | exact retF (fun w => by have := ((bhas5 b q).1 w).2; omega) | exact retT ((bhas5 b q).2 ⟨Decidable.not_not.1 (by assumption), by omega⟩)
instance iBHas (a0 b0 a1 b1 a2 b2 a3 b3 a4 b4 s d p x y : Int) : ConF Tryz.prog Gl 68 [.agg [.int .u32 a0, .int .u32 b0, .int .u32 a1, .int .u32 b1, .int .u32 a2, .int .u32 b2, .int .u32 a3, .int .u32 b3, .int .u32 a4, .int .u32 b4], .agg [.int .u32 s, .int .u32 d, .int .u8 p, .int .u16 x, .int .u16 y]] (GBoxT Gl ∧ HdrIn ⟨s, d, p, x, y⟩) (.bool (bhas ⟨⟨a0, b0⟩, ⟨a1, b1⟩, ⟨a2, b2⟩, ⟨a3, b3⟩, ⟨a4, b4⟩⟩ ⟨s, d, p, x, y⟩)) := ⟨e68, fun h => c_bcontains h.1 ⟨⟨a0, b0⟩, ⟨a1, b1⟩, ⟨a2, b2⟩, ⟨a3, b3⟩, ⟨a4, b4⟩⟩ ⟨s, d, p, x, y⟩ h.2⟩
instance iBHasE (b : TBox) (s d p x y : Int) : ConF Tryz.prog Gl 68 [eBox b, .agg [.int .u32 s, .int .u32 d, .int .u8 p, .int .u16 x, .int .u16 y]] (GBoxT Gl ∧ HdrIn ⟨s, d, p, x, y⟩) (.bool (bhas b ⟨s, d, p, x, y⟩)) := ⟨e68, fun h => c_bcontains h.1 b ⟨s, d, p, x, y⟩ h.2⟩
theorem c_bfull (hG : GBoxT Gl) : PFun Tryz.prog Gl 70 [] fun r => r = eBox fullB := by
 unfold GBoxT at hG
 (refine PFun.of hT Tryz.func70 rfl fun B hD => ?_; refine pw_norm rfl ?_)
 (repeat' (first | refine pw_round ?_ | refine pw_rounds 7 ?_ | refine zS ?_ | refine zD ?_ | refine po_both ?_ ?_ | refine pwt_both ?_ ?_ | refine pwt_fork ?_ | refine pwt_lin ?_ | (refine po_test rfl rfl rfl rfl zB ?_ ?_ <;> intro hb <;> first | exact zX | refine zDn ?_) | (refine zT ?_ ?_ <;> intro h <;> first | exact zX | refine zNq ?_)))
 exact ret1 _ rfl rfl rfl
instance iBFull : ConF Tryz.prog Gl 70 [] (GBoxT Gl) (eBox fullB) := ⟨e70, fun h => c_bfull h⟩
end
section
variable {Gl : Glob}
attribute [local irreducible] PW PWL OpP PCalls PWO bokB hinB bhas
def topI (f : Int) : Int := if f = 0 ∨ f = 1 then 4294967295 else if f = 2 then 255 else if f = 3 ∨ f = 4 then 65535 else 0
theorem c_rTop (f : Int) : PFun Tryz.prog Gl 105 [.int .i64 f] fun r => r = .int .u32 (topI f) := by
 (refine PFun.of hT Tryz.func105 rfl fun B hD => ?_; refine pw_norm rfl ?_)
 (repeat' (first | refine pw_round ?_ | refine pw_rounds 7 ?_ | refine zS ?_ | refine zD ?_ | refine po_both ?_ ?_ | refine pwt_both ?_ ?_ | refine pwt_fork ?_ | refine pwt_lin ?_ | (refine po_test rfl rfl rfl rfl zB ?_ ?_ <;> intro hb <;> first | exact zX | refine zDn ?_) | (refine zT ?_ ?_ <;> intro h <;> first | exact zX | refine zNq ?_)))
 all_goals (refine ret1 _ rfl (iE ?_) rfl; unfold topI; (repeat' split) <;> omega)
instance iRTop (f : Int) : ConF Tryz.prog Gl 105 [.int .i64 f] True (.int .u32 (topI f)) := ⟨e105, fun _ => c_rTop f⟩
theorem c_rbvalid (b : TBox) : PFun Tryz.prog Gl 50 [eBox b] fun r => r = .bool (bokB b) := by
 (refine PFun.of hT Tryz.func50 rfl fun B hD => ?_; refine pw_norm rfl ?_)
 (repeat' (first | refine pw_round ?_ | refine pw_rounds 7 ?_ | (refine zDr [[0,1,2,3,4,5,6,7,8,9,10,11,12,13,14],[15],[16,17]] ?_; refine zDn ?_) | refine zS ?_ | refine zD ?_ | refine po_both ?_ ?_ | refine pwt_both ?_ ?_ | refine pwt_fork ?_ | refine pwt_lin ?_ | (refine po_test rfl rfl rfl rfl zB ?_ ?_ <;> intro hb <;> first | exact zX | refine zDn ?_) | refine zq5 ?_ | refine zq6 ?_ | (refine zT ?_ ?_ <;> intro h <;> first | exact zX | refine zNq ?_)))
 all_goals refine ret1 _ rfl ?_ rfl
 all_goals have t0 : topI 0 = 4294967295 := rfl
 all_goals have t1 : topI (0 + 1) = 4294967295 := rfl
 all_goals have t2 : topI (0 + 1 + 1) = 255 := rfl
 all_goals have t3 : topI (0 + 1 + 1 + 1) = 65535 := rfl
 all_goals have t4 : topI (0 + 1 + 1 + 1 + 1) = 65535 := rfl
 all_goals first | exact retF (fun q => by have := (bokB5 b).1 q; omega) | exact retT ((bokB5 b).2 (by omega))
instance iRBValid (a0 b0 a1 b1 a2 b2 a3 b3 a4 b4 : Int) : ConF Tryz.prog Gl 50 [.agg [.int .u32 a0, .int .u32 b0, .int .u32 a1, .int .u32 b1, .int .u32 a2, .int .u32 b2, .int .u32 a3, .int .u32 b3, .int .u32 a4, .int .u32 b4]] True (.bool (bokB ⟨⟨a0, b0⟩, ⟨a1, b1⟩, ⟨a2, b2⟩, ⟨a3, b3⟩, ⟨a4, b4⟩⟩)) := ⟨e50, fun _ => c_rbvalid ⟨⟨a0, b0⟩, ⟨a1, b1⟩, ⟨a2, b2⟩, ⟨a3, b3⟩, ⟨a4, b4⟩⟩⟩
instance iRBValidE (b : TBox) : ConF Tryz.prog Gl 50 [eBox b] True (.bool (bokB b)) := ⟨e50, fun _ => c_rbvalid b⟩
theorem c_rPoint (q : THdr) (hh : HdrIn q) : PFun Tryz.prog Gl 49 [eHdr q] fun r => r = .agg [.int .u32 q.src, .int .u32 q.dst, .int .u32 q.proto, .int .u32 q.sp, .int .u32 q.dp] := by
 obtain ⟨h1, h2, h3, h4, h5⟩ := hh
 (refine PFun.of hT Tryz.func49 rfl fun B hD => ?_; refine pw_norm rfl ?_)
 (repeat' (first | refine pw_round ?_ | refine pw_rounds 7 ?_ | refine zS ?_ | refine zD ?_ | refine po_both ?_ ?_ | refine pwt_both ?_ ?_ | refine pwt_fork ?_ | refine pwt_lin ?_ | (refine po_test rfl rfl rfl rfl zB ?_ ?_ <;> intro hb <;> first | exact zX | refine zDn ?_) | (refine zT ?_ ?_ <;> intro h <;> first | exact zX | refine zNq ?_)))
 exact ret1 _ rfl rfl rfl
instance iRPoint (s d p x y : Int) : ConF Tryz.prog Gl 49 [.agg [.int .u32 s, .int .u32 d, .int .u8 p, .int .u16 x, .int .u16 y]] (HdrIn ⟨s, d, p, x, y⟩) (.agg [.int .u32 s, .int .u32 d, .int .u32 p, .int .u32 x, .int .u32 y]) := ⟨e49, fun h => c_rPoint ⟨s, d, p, x, y⟩ h⟩
theorem c_rContains (b : TBox) (q : THdr) (hh : HdrIn q) : PFun Tryz.prog Gl 17 [eBox b, eHdr q] fun r => r = .bool (bhas b q) := by
 have hh' : HdrIn ⟨q.src, q.dst, q.proto, q.sp, q.dp⟩ := hh
 (refine PFun.of hT Tryz.func17 rfl fun B hD => ?_; refine pw_norm rfl ?_)
 (repeat' (first | refine pw_round ?_ | refine pw_rounds 7 ?_ | (refine zDr [[0,1,2,3,4,5,6,7,8,9,10,11,12,13,14,15,16,17]] ?_; refine zDn ?_) | refine zS ?_ | refine zD ?_ | refine po_both ?_ ?_ | refine pwt_both ?_ ?_ | refine pwt_fork ?_ | refine pwt_lin ?_ | (refine po_test rfl rfl rfl rfl zB ?_ ?_ <;> intro hb <;> first | exact zX | refine zDn ?_) | refine zq5 ?_ | refine zq6 ?_ | (refine zT ?_ ?_ <;> intro h <;> first | exact zX | refine zNq ?_)))
 all_goals refine ret1 _ rfl ?_ rfl
 all_goals first | exact retF (fun w => by have := ((bhas5 b q).1 w).2; omega) | (refine congrArg PV.bool (Bool.eq_iff_iff.2 ⟨fun w => (bhas5 b q).2 ⟨w, by omega⟩, fun w => ((bhas5 b q).1 w).1⟩))
instance iRHas (a0 b0 a1 b1 a2 b2 a3 b3 a4 b4 s d p x y : Int) : ConF Tryz.prog Gl 17 [.agg [.int .u32 a0, .int .u32 b0, .int .u32 a1, .int .u32 b1, .int .u32 a2, .int .u32 b2, .int .u32 a3, .int .u32 b3, .int .u32 a4, .int .u32 b4], .agg [.int .u32 s, .int .u32 d, .int .u8 p, .int .u16 x, .int .u16 y]] (HdrIn ⟨s, d, p, x, y⟩) (.bool (bhas ⟨⟨a0, b0⟩, ⟨a1, b1⟩, ⟨a2, b2⟩, ⟨a3, b3⟩, ⟨a4, b4⟩⟩ ⟨s, d, p, x, y⟩)) := ⟨e17, fun h => c_rContains ⟨⟨a0, b0⟩, ⟨a1, b1⟩, ⟨a2, b2⟩, ⟨a3, b3⟩, ⟨a4, b4⟩⟩ ⟨s, d, p, x, y⟩ h⟩
instance iRHasE (b : TBox) (s d p x y : Int) : ConF Tryz.prog Gl 17 [eBox b, .agg [.int .u32 s, .int .u32 d, .int .u8 p, .int .u16 x, .int .u16 y]] (HdrIn ⟨s, d, p, x, y⟩) (.bool (bhas b ⟨s, d, p, x, y⟩)) := ⟨e17, fun h => c_rContains b ⟨s, d, p, x, y⟩ h⟩
theorem c_rFull : PFun Tryz.prog Gl 51 [] fun r => r = eBox fullB := by
 (refine PFun.of hT Tryz.func51 rfl fun B hD => ?_; refine pw_norm rfl ?_)
 (repeat' (first | refine pw_round ?_ | refine pw_rounds 7 ?_ | refine zS ?_ | refine zD ?_ | refine po_both ?_ ?_ | refine pwt_both ?_ ?_ | refine pwt_fork ?_ | refine pwt_lin ?_ | (refine po_test rfl rfl rfl rfl zB ?_ ?_ <;> intro hb <;> first | exact zX | refine zDn ?_) | (refine zT ?_ ?_ <;> intro h <;> first | exact zX | refine zNq ?_)))
 exact ret1 _ rfl rfl rfl
instance iRFull : ConF Tryz.prog Gl 51 [] True (eBox fullB) := ⟨e51, fun _ => c_rFull⟩
theorem c_gFull : PFun Tryz.prog Gl 57 [] fun r => r = eBox fullB := by
 (refine PFun.of hT Tryz.func57 rfl fun B hD => ?_; refine pw_norm rfl ?_)
 (repeat' (first | refine pw_round ?_ | refine pw_rounds 7 ?_ | refine zS ?_ | refine zD ?_ | refine po_both ?_ ?_ | refine pwt_both ?_ ?_ | refine pwt_fork ?_ | refine pwt_lin ?_ | (refine po_test rfl rfl rfl rfl zB ?_ ?_ <;> intro hb <;> first | exact zX | refine zDn ?_) | (refine zT ?_ ?_ <;> intro h <;> first | exact zX | refine zNq ?_)))
 exact ret1 _ rfl rfl rfl
instance iGFull : ConF Tryz.prog Gl 57 [] True (eBox fullB) := ⟨e57, fun _ => c_gFull⟩
def none_to {α : Type} [Inhabited α] (p : α → Bool) (l : List α) (i : Nat) : Prop := ∀ j, j < i → p (l.getD j default) = false
theorem none_to_succ {α : Type} [Inhabited α] {p : α → Bool} {l : List α} {i : Nat} (h : none_to p l i) (hp : ¬ p (l.getD i default) = true) : none_to p l (i + 1) := fun j hj => by
 rcases Nat.lt_succ_iff_lt_or_eq.1 hj with q | rfl
 ·exact h j q
 ·exact Bool.eq_false_iff.2 hp
theorem find_hit {α : Type} [Inhabited α] {p : α → Bool} : ∀ {l : List α} {i : Nat}, none_to p l i → i < l.length → p (l.getD i default) = true → l.find? p = some (l.getD i default)
 | [], i, _, h, _ => by simp at h
 | x :: l, 0, _, _, hp => by
  rw [List.find?_cons, show p x = true from hp]
  rfl
 | x :: l, i + 1, h, hl, hp => by
  have h0 := h 0 (Nat.zero_lt_succ _)
  rw [List.find?_cons, show p x = false from h0]
  exact find_hit (fun j hj => h (j + 1) (by omega)) (by simpa using hl) hp
theorem find_miss {α : Type} [Inhabited α] {p : α → Bool} {l : List α} (h : none_to p l l.length) : l.find? p = none := by
 rw [List.find?_eq_none]
 intro x hx
 obtain ⟨j, hj, rfl⟩ := List.getElem_of_mem hx
 have := h j hj
 rw [List.getD, List.getElem?_eq_getElem hj] at this
 simpa using this
theorem all_hit {α : Type} [Inhabited α] {p : α → Bool} {l : List α} {i : Nat} (hl : i < l.length) (hp : ¬ p (l.getD i default) = true) : l.all p = false := by
 rw [List.all_eq_false]
 refine ⟨l.getD i default, ?_, hp⟩
 rw [List.getD, List.getElem?_eq_getElem hl]
 exact List.getElem_mem hl
def all_to {α : Type} [Inhabited α] (p : α → Bool) (l : List α) (i : Nat) : Prop := ∀ j, j < i → p (l.getD j default) = true
theorem all_to_succ {α : Type} [Inhabited α] {p : α → Bool} {l : List α} {i : Nat} (h : all_to p l i) (hp : p (l.getD i default) = true) : all_to p l (i + 1) := fun j hj => by
 rcases Nat.lt_succ_iff_lt_or_eq.1 hj with q | rfl
 ·exact h j q
 ·exact hp
theorem all_end {α : Type} [Inhabited α] {p : α → Bool} {l : List α} (h : all_to p l l.length) : l.all p = true := by
 rw [List.all_eq_true]
 intro x hx
 obtain ⟨j, hj, rfl⟩ := List.getElem_of_mem hx
 have := h j hj
 rwa [List.getD, List.getElem?_eq_getElem hj] at this
theorem firstAt_at {α : Type} [Inhabited α] {p : α → Bool} {l : List α} {i : Nat} (h : none_to p l i) (hi : i < l.length) (hp : p (l.getD i default) = true) : firstAt p l = (i : Int) :=
 firstAt_hit hi (by rw [List.getD, List.getElem?_eq_getElem hi] at hp; exact hp) fun j x hj hx => by
  have := h j hj
  rw [List.getD, hx] at this
  exact this
theorem firstAt_not {α : Type} [Inhabited α] {p : α → Bool} {l : List α} (h : none_to p l l.length) : firstAt p l = -1 := firstAt_miss fun j x hx => by
 have := h j (List.getElem?_eq_some_iff.1 hx).1
 rw [List.getD, hx] at this
 exact this
theorem decT_hit {t : List TRule} {q : THdr} {i : Nat} (h : none_to (fun r => bhas r.m q) t i) (hi : i < t.length) (hp : bhas (t.getD i default).m q = true) : decT t q = (t.getD i default).p := by
 unfold decT
 rw [find_hit h hi hp]
theorem decT_miss {t : List TRule} {q : THdr} (h : none_to (fun r => bhas r.m q) t t.length) : decT t q = false := by
 unfold decT
 rw [find_miss h]
theorem ret_dec {b b' : Bool} {n n' : Int} (h1 : b = b') (h2 : n = n') : PV.tup [.bool b, .int .i64 n] = .tup [.bool b', .int .i64 n'] := by rw [h1, h2]
theorem clsP_hit {p : TPort} {q : THdr} {i : Nat} (h : none_to (fun s => bhas s.m q) p.steers i) (hi : i < p.steers.length) (hp : bhas (p.steers.getD i default).m q = true) : clsP p q = (p.steers.getD i default).c := by
 unfold clsP
 rw [find_hit h hi hp]
theorem clsP_miss {p : TPort} {q : THdr} (h : none_to (fun s => bhas s.m q) p.steers p.steers.length) : clsP p q = [] := by
 unfold clsP
 rw [find_miss h]
theorem c_fDecide (hG : GBoxT Gl) (t : List TRule) (q : THdr) (hh : HdrIn q) (hl : t.length < 1000000) : PFun Tryz.prog Gl 30 [.sl (t.map eRule), eHdr q] fun r => r = .tup [.bool (decT t q), .int .i64 (firstAt (fun r => bhas r.m q) t)] := by
 have hh' : HdrIn ⟨q.src, q.dst, q.proto, q.sp, q.dp⟩ := hh
 (refine PFun.of hT Tryz.func30 rfl fun B hD => ?_; refine pw_norm rfl ?_)
 (repeat' (first | refine zS ?_ | refine zD ?_ | refine po_both ?_ ?_ | refine pwt_both ?_ ?_ | refine pwt_fork ?_ | refine pwt_lin ?_ | (refine po_test rfl rfl rfl rfl zB ?_ ?_ <;> intro hb <;> first | exact zX | refine zDn ?_) | (refine zT ?_ ?_ <;> intro h <;> first | exact zX | refine zNq ?_)))
 refine pw_for hD (fun i : Nat => [(10, .int .i64 i)]) (fun _ => [.box [.int .u32 q.src, .int .u32 q.dst, .int .u8 q.proto, .int .u16 q.sp, .int .u16 q.dp]]) (fun i => i ≤ t.length ∧ none_to (fun r => bhas r.m q) t i) (fun i => t.length - i) 0 ⟨Nat.zero_le _, fun j h => by omega⟩ 1 rfl (fun _ => rfl) zLes (fun _ => rfl) (fun _ => rfl) zLe ?_
 rintro i ⟨hi, hn⟩
 (repeat' (first | refine zS ?_ | refine zD ?_ | refine po_both ?_ ?_ | refine pwt_both ?_ ?_ | refine pwt_fork ?_ | refine pwt_lin ?_ | (refine po_test rfl rfl rfl rfl zB ?_ ?_ <;> intro hb <;> first | exact zX | refine zDn ?_) | (refine zT ?_ ?_ <;> intro h <;> first | exact zX | refine zNq ?_)))
 ·refine ret1 _ rfl ?_ rfl
  exact ret_dec (decT_hit hn (by omega) h).symm (firstAt_at (p := fun r : TRule => bhas r.m q) hn (by omega) h).symm
 ·exact ⟨i + 1, ⟨by omega, none_to_succ hn h⟩, by omega, zLe, zLes⟩
 ·refine ret1 _ rfl ?_ rfl
  obtain rfl : i = t.length := by omega
  exact ret_dec (decT_miss hn).symm (firstAt_not hn).symm
instance i_fDecide (t : List TRule) (s d p x y : Int) : ConF Tryz.prog Gl 30 [.sl (t.map eRule), .agg [.int .u32 s, .int .u32 d, .int .u8 p, .int .u16 x, .int .u16 y]] ((GBoxT Gl ∧ HdrIn ⟨s, d, p, x, y⟩) ∧ t.length < 1000000) (.tup [.bool (decT t ⟨s, d, p, x, y⟩), .int .i64 (firstAt (fun r => bhas r.m ⟨s, d, p, x, y⟩) t)]) := ⟨e30, fun h => c_fDecide h.1.1 t ⟨s, d, p, x, y⟩ h.1.2 h.2⟩
theorem c_rDecide (t : List TRule) (q : THdr) (hh : HdrIn q) (hl : t.length < 1000000) : PFun Tryz.prog Gl 16 [.sl (t.map eRule), eHdr q] fun r => r = .tup [.bool (decT t q), .int .i64 (firstAt (fun r => bhas r.m q) t)] := by
 have hh' : HdrIn ⟨q.src, q.dst, q.proto, q.sp, q.dp⟩ := hh
 (refine PFun.of hT Tryz.func16 rfl fun B hD => ?_; refine pw_norm rfl ?_)
 (repeat' (first | (refine zDr [[0,1,2,3,4,5],[6]] ?_; refine zDn ?_) | refine zS ?_ | refine zD ?_ | refine po_both ?_ ?_ | refine pwt_both ?_ ?_ | refine pwt_fork ?_ | refine pwt_lin ?_ | (refine po_test rfl rfl rfl rfl zB ?_ ?_ <;> intro hb <;> first | exact zX | refine zDn ?_) | (refine zT ?_ ?_ <;> intro h <;> first | exact zX | refine zNq ?_)))
 refine pw_for hD (fun i : Nat => [(6, .int .i64 i)]) (fun _ => [.box [.int .u32 q.src, .int .u32 q.dst, .int .u8 q.proto, .int .u16 q.sp, .int .u16 q.dp]]) (fun i => i ≤ t.length ∧ none_to (fun r => bhas r.m q) t i) (fun i => t.length - i) 0 ⟨Nat.zero_le _, fun j h => by omega⟩ 1 rfl (fun _ => rfl) zLes (fun _ => rfl) (fun _ => rfl) zLe ?_
 rintro i ⟨hi, hn⟩
 (repeat' (first | (refine zDr [[0,1,2,3,4,5],[6]] ?_; refine zDn ?_) | refine zS ?_ | refine zD ?_ | refine po_both ?_ ?_ | refine pwt_both ?_ ?_ | refine pwt_fork ?_ | refine pwt_lin ?_ | (refine po_test rfl rfl rfl rfl zB ?_ ?_ <;> intro hb <;> first | exact zX | refine zDn ?_) | (refine zT ?_ ?_ <;> intro h <;> first | exact zX | refine zNq ?_)))
 ·refine ret1 _ rfl ?_ rfl
  exact ret_dec (decT_hit hn (by omega) h).symm (firstAt_at (p := fun r : TRule => bhas r.m q) hn (by omega) h).symm
 ·exact ⟨i + 1, ⟨by omega, none_to_succ hn h⟩, by omega, zLe, zLes⟩
 ·refine ret1 _ rfl ?_ rfl
  obtain rfl : i = t.length := by omega
  exact ret_dec (decT_miss hn).symm (firstAt_not hn).symm
instance i_rDecide (t : List TRule) (s d p x y : Int) : ConF Tryz.prog Gl 16 [.sl (t.map eRule), .agg [.int .u32 s, .int .u32 d, .int .u8 p, .int .u16 x, .int .u16 y]] (HdrIn ⟨s, d, p, x, y⟩ ∧ t.length < 1000000) (.tup [.bool (decT t ⟨s, d, p, x, y⟩), .int .i64 (firstAt (fun r => bhas r.m ⟨s, d, p, x, y⟩) t)]) := ⟨e16, fun h => c_rDecide t ⟨s, d, p, x, y⟩ h.1 h.2⟩
theorem c_fValid (hG : GBoxT Gl) (t : List TRule) (hl : t.length < 1000000) : PFun Tryz.prog Gl 64 [.sl (t.map eRule)] fun r => r = .bool (tabOk t) := by
 (refine PFun.of hT Tryz.func64 rfl fun B hD => ?_; refine pw_norm rfl ?_)
 (repeat' (first | refine zS ?_ | refine zD ?_ | refine po_both ?_ ?_ | refine pwt_both ?_ ?_ | refine pwt_fork ?_ | refine pwt_lin ?_ | (refine po_test rfl rfl rfl rfl zB ?_ ?_ <;> intro hb <;> first | exact zX | refine zDn ?_) | (refine zT ?_ ?_ <;> intro h <;> first | exact zX | refine zNq ?_)))
 refine pw_for hD (fun i : Nat => [(7, .int .i64 i)]) (fun _ => []) (fun i => i ≤ t.length ∧ all_to (fun r => bokB r.m) t i) (fun i => t.length - i) 0 ⟨Nat.zero_le _, fun j h => by omega⟩ 0 rfl (fun _ => rfl) zLes (fun _ => rfl) (fun _ => rfl) zLe ?_
 rintro i ⟨hi, hn⟩
 (repeat' (first | refine zS ?_ | refine zD ?_ | refine po_both ?_ ?_ | refine pwt_both ?_ ?_ | refine pwt_fork ?_ | refine pwt_lin ?_ | (refine po_test rfl rfl rfl rfl zB ?_ ?_ <;> intro hb <;> first | exact zX | refine zDn ?_) | (refine zT ?_ ?_ <;> intro h <;> first | exact zX | refine zNq ?_)))
 ·refine ret1 _ rfl ?_ rfl
  unfold tabOk
  rw [all_hit (p := fun r : TRule => bokB r.m) (by omega) h]
  rfl
 ·exact ⟨i + 1, ⟨by omega, all_to_succ hn (Decidable.not_not.1 h)⟩, by omega, zLe, zLes⟩
 ·refine ret1 _ rfl ?_ rfl
  obtain rfl : i = t.length := by omega
  unfold tabOk
  rw [all_end (p := fun r : TRule => bokB r.m) hn, Bool.true_and]
  exact congrArg PV.bool (decide_eq_decide.2 (by omega))
instance i_fValid (t : List TRule) : ConF Tryz.prog Gl 64 [.sl (t.map eRule)] (GBoxT Gl ∧ t.length < 1000000) (.bool (tabOk t)) := ⟨e64, fun h => c_fValid h.1 t h.2⟩
theorem c_rTValid (t : List TRule) (hl : t.length < 1000000) : PFun Tryz.prog Gl 75 [.sl (t.map eRule)] fun r => r = .bool (tabOk t) := by
 (refine PFun.of hT Tryz.func75 rfl fun B hD => ?_; refine pw_norm rfl ?_)
 (repeat' (first | refine zS ?_ | refine zD ?_ | refine po_both ?_ ?_ | refine pwt_both ?_ ?_ | refine pwt_fork ?_ | refine pwt_lin ?_ | (refine po_test rfl rfl rfl rfl zB ?_ ?_ <;> intro hb <;> first | exact zX | refine zDn ?_) | (refine zT ?_ ?_ <;> intro h <;> first | exact zX | refine zNq ?_)))
 refine pw_for hD (fun i : Nat => [(3, .int .i64 i)]) (fun _ => []) (fun i => i ≤ t.length ∧ all_to (fun r => bokB r.m) t i) (fun i => t.length - i) 0 ⟨Nat.zero_le _, fun j h => by omega⟩ 0 rfl (fun _ => rfl) zLes (fun _ => rfl) (fun _ => rfl) zLe ?_
 rintro i ⟨hi, hn⟩
 (repeat' (first | refine zS ?_ | refine zD ?_ | refine po_both ?_ ?_ | refine pwt_both ?_ ?_ | refine pwt_fork ?_ | refine pwt_lin ?_ | (refine po_test rfl rfl rfl rfl zB ?_ ?_ <;> intro hb <;> first | exact zX | refine zDn ?_) | (refine zT ?_ ?_ <;> intro h <;> first | exact zX | refine zNq ?_)))
 ·refine ret1 _ rfl ?_ rfl
  unfold tabOk
  rw [all_hit (p := fun r : TRule => bokB r.m) (by omega) h]
  rfl
 ·exact ⟨i + 1, ⟨by omega, all_to_succ hn (Decidable.not_not.1 h)⟩, by omega, zLe, zLes⟩
 ·refine ret1 _ rfl ?_ rfl
  obtain rfl : i = t.length := by omega
  unfold tabOk
  rw [all_end (p := fun r : TRule => bokB r.m) hn, Bool.true_and]
  exact congrArg PV.bool (decide_eq_decide.2 (by omega))
instance i_rTValid (t : List TRule) : ConF Tryz.prog Gl 75 [.sl (t.map eRule)] (t.length < 1000000) (.bool (tabOk t)) := ⟨e75, fun h => c_rTValid t h⟩
theorem c_cClass (hG : GBoxT Gl) (p : TPort) (q : THdr) (hh : HdrIn q) (hl : p.steers.length < 1000000) : PFun Tryz.prog Gl 31 [ePort p, eHdr q] fun r => r = .str (clsP p q) := by
 have hh' : HdrIn ⟨q.src, q.dst, q.proto, q.sp, q.dp⟩ := hh
 (refine PFun.of hT Tryz.func31 rfl fun B hD => ?_; refine pw_norm rfl ?_)
 (repeat' (first | refine zS ?_ | refine zD ?_ | refine po_both ?_ ?_ | refine pwt_both ?_ ?_ | refine pwt_fork ?_ | refine pwt_lin ?_ | (refine po_test rfl rfl rfl rfl zB ?_ ?_ <;> intro hb <;> first | exact zX | refine zDn ?_) | (refine zT ?_ ?_ <;> intro h <;> first | exact zX | refine zNq ?_)))
 refine pw_for hD (fun i : Nat => [(10, .int .i64 i)]) (fun _ => [.box [.int .i64 p.edge, .sl (p.ing.map eRule), .sl (p.egr.map eRule), .sl (p.moves.map eMove), .sl (p.hides.map eHide), .sl (p.steers.map eSteer)], .box [.int .u32 q.src, .int .u32 q.dst, .int .u8 q.proto, .int .u16 q.sp, .int .u16 q.dp]]) (fun i => i ≤ p.steers.length ∧ none_to (fun s => bhas s.m q) p.steers i) (fun i => p.steers.length - i) 0 ⟨Nat.zero_le _, fun j h => by omega⟩ 2 rfl (fun _ => rfl) zLes (fun _ => rfl) (fun _ => rfl) zLe ?_
 rintro i ⟨hi, hn⟩
 (repeat' (first | refine zS ?_ | refine zD ?_ | refine po_both ?_ ?_ | refine pwt_both ?_ ?_ | refine pwt_fork ?_ | refine pwt_lin ?_ | (refine po_test rfl rfl rfl rfl zB ?_ ?_ <;> intro hb <;> first | exact zX | refine zDn ?_) | (refine zT ?_ ?_ <;> intro h <;> first | exact zX | refine zNq ?_)))
 ·refine ret1 _ rfl ?_ rfl
  exact congrArg PV.str (clsP_hit hn (by omega) h).symm
 ·exact ⟨i + 1, ⟨by omega, none_to_succ hn h⟩, by omega, zLe, zLes⟩
 ·refine ret1 _ rfl ?_ rfl
  obtain rfl : i = p.steers.length := by omega
  rw [clsP_miss hn]
instance i_cClass (e : Int) (A B : List TRule) (C : List TMove) (D : List THide) (F : List TSteer) (s d p x y : Int) : ConF Tryz.prog Gl 31 [.agg [.int .i64 e, .sl (A.map eRule), .sl (B.map eRule), .sl (C.map eMove), .sl (D.map eHide), .sl (F.map eSteer)], .agg [.int .u32 s, .int .u32 d, .int .u8 p, .int .u16 x, .int .u16 y]] ((GBoxT Gl ∧ HdrIn ⟨s, d, p, x, y⟩) ∧ F.length < 1000000) (.str (clsP ⟨e, A, B, C, D, F⟩ ⟨s, d, p, x, y⟩)) := ⟨e31, fun h => c_cClass h.1.1 ⟨e, A, B, C, D, F⟩ ⟨s, d, p, x, y⟩ h.1.2 h.2⟩
theorem c_rClass (p : TPort) (q : THdr) (hh : HdrIn q) (hl : p.steers.length < 1000000) : PFun Tryz.prog Gl 34 [ePort p, eHdr q] fun r => r = .str (clsP p q) := by
 have hh' : HdrIn ⟨q.src, q.dst, q.proto, q.sp, q.dp⟩ := hh
 (refine PFun.of hT Tryz.func34 rfl fun B hD => ?_; refine pw_norm rfl ?_)
 (repeat' (first | (refine zDr [[0,1,2,3,4,5,6],[7]] ?_; refine zDn ?_) | refine zS ?_ | refine zD ?_ | refine po_both ?_ ?_ | refine pwt_both ?_ ?_ | refine pwt_fork ?_ | refine pwt_lin ?_ | (refine po_test rfl rfl rfl rfl zB ?_ ?_ <;> intro hb <;> first | exact zX | refine zDn ?_) | (refine zT ?_ ?_ <;> intro h <;> first | exact zX | refine zNq ?_)))
 refine pw_for hD (fun i : Nat => [(5, .int .i64 i)]) (fun _ => [.box [.int .i64 p.edge, .sl (p.ing.map eRule), .sl (p.egr.map eRule), .sl (p.moves.map eMove), .sl (p.hides.map eHide), .sl (p.steers.map eSteer)], .box [.int .u32 q.src, .int .u32 q.dst, .int .u8 q.proto, .int .u16 q.sp, .int .u16 q.dp]]) (fun i => i ≤ p.steers.length ∧ none_to (fun s => bhas s.m q) p.steers i) (fun i => p.steers.length - i) 0 ⟨Nat.zero_le _, fun j h => by omega⟩ 2 rfl (fun _ => rfl) zLes (fun _ => rfl) (fun _ => rfl) zLe ?_
 rintro i ⟨hi, hn⟩
 (repeat' (first | (refine zDr [[0,1,2,3,4,5,6],[7]] ?_; refine zDn ?_) | refine zS ?_ | refine zD ?_ | refine po_both ?_ ?_ | refine pwt_both ?_ ?_ | refine pwt_fork ?_ | refine pwt_lin ?_ | (refine po_test rfl rfl rfl rfl zB ?_ ?_ <;> intro hb <;> first | exact zX | refine zDn ?_) | (refine zT ?_ ?_ <;> intro h <;> first | exact zX | refine zNq ?_)))
 ·refine ret1 _ rfl ?_ rfl
  exact congrArg PV.str (clsP_hit hn (by omega) h).symm
 ·exact ⟨i + 1, ⟨by omega, none_to_succ hn h⟩, by omega, zLe, zLes⟩
 ·refine ret1 _ rfl ?_ rfl
  obtain rfl : i = p.steers.length := by omega
  rw [clsP_miss hn]
instance i_rClass (e : Int) (A B : List TRule) (C : List TMove) (D : List THide) (F : List TSteer) (s d p x y : Int) : ConF Tryz.prog Gl 34 [.agg [.int .i64 e, .sl (A.map eRule), .sl (B.map eRule), .sl (C.map eMove), .sl (D.map eHide), .sl (F.map eSteer)], .agg [.int .u32 s, .int .u32 d, .int .u8 p, .int .u16 x, .int .u16 y]] (HdrIn ⟨s, d, p, x, y⟩ ∧ F.length < 1000000) (.str (clsP ⟨e, A, B, C, D, F⟩ ⟨s, d, p, x, y⟩)) := ⟨e34, fun h => c_rClass ⟨e, A, B, C, D, F⟩ ⟨s, d, p, x, y⟩ h.1 h.2⟩
def lhas (l : List TBox) (q : THdr) : Bool := l.any fun b => bhas b q
end
section
variable {Gl : Glob}
attribute [local irreducible] PW PWL OpP PCalls PWO
theorem c_idxBox {f : FuncId} (hf : Enters Tryz.prog f) {cs : List PV} (hcs : cs.all (PV.refs (fun _ => false) 5) = true) {xs : List TBox} (hl : Small xs) {p : TBox → Bool} (hp : ∀ x ∈ xs, PCalls Tryz.prog Gl f [eBox x, .ptr 0 0] [.box cs] fun r s => r = .bool (p x) ∧ s = [.box cs]) :
  PCalls Tryz.prog Gl 112 [.sl (xs.map eBox), .fn f [.ptr 0 0]] [.box cs] fun r s => r = .int .i64 (firstAt p xs) ∧ s = [.box cs] := by
 refine PCalls.of hT Tryz.func112 rfl 1 (Nat.le_refl _) fun B hD => ?_
 refine pw_normE rfl ?_
 (refine zGo ?_)
 refine pw_for hD (fun i : Nat => [(8, .int .i64 i)]) (fun _ => [.box cs]) (fun i => i ≤ xs.length ∧ ∀ (j : Nat) d, j < i → xs[j]? = some d → p d = false) (fun i => xs.length - i) 0 ⟨by omega, by intro j d h; omega⟩ 1 rfl (fun _ => rfl) (StLe.refl _) (fun _ => rfl) (fun _ => both rfl (box1 hcs _)) zLe ?_
 rintro i ⟨hi, hno⟩
 unfold Small at hl
 (refine zGo ?_)
 refine pw_cond rfl (fun h => ?_) (fun h => ?_)
 ·simp only [decide_eq_true_eq, List.length_map] at h
  have hlt : i < xs.length := by omega
  (refine zGo ?_)
  (refine pl_op rfl (op_of (v_index (p := eBox xs[i]) hT rfl rfl rfl rfl (by omega) (by simp [hlt]) rfl) ?_); refine pl_normE rfl ?_)
  (refine zGo ?_)
  refine pl_op rfl (op_pred (v := eBox xs[i]) hcs (hp xs[i] (List.getElem_mem hlt)) rfl rfl rfl rfl hf rfl ?_); refine pl_normE rfl ?_
  (refine zGo ?_)
  refine pw_cond rfl (fun h2 => ?_) (fun h2 => ?_)
  ·(refine zGo ?_)
   exact ⟨_, _, _, rfl, ⟨by rw [firstAt_hit hlt h2 hno]; rfl, rfl⟩, .inr (.inl rfl), ⟨.inr (.inl rfl), trivial⟩, rfl, box1 hcs _⟩
  ·(refine zGo ?_)
   refine ⟨i + 1, ⟨by omega, fun j d hj hd => ?_⟩, by omega, zLe, StLe.refl _⟩
   rcases Nat.lt_succ_iff_lt_or_eq.1 hj with hj | rfl
   ·exact hno j d hj hd
   ·rw [List.getElem?_eq_getElem hlt] at hd; cases hd; exact h2
 ·simp only [decide_eq_false_iff_not, List.length_map] at h
  (refine zGo ?_)
  exact ⟨_, _, _, rfl, ⟨by rw [firstAt_miss fun j x hj => hno j x (by have := (List.getElem?_eq_some_iff.1 hj).1; omega) hj]; rfl, rfl⟩, .inr (.inl rfl), ⟨.inr (.inl rfl), trivial⟩, rfl, box1 hcs _⟩
theorem c_hasBox {f : FuncId} (hf : Enters Tryz.prog f) {cs : List PV} (hcs : cs.all (PV.refs (fun _ => false) 5) = true) {xs : List TBox} (hl : Small xs) {p : TBox → Bool} (hp : ∀ x ∈ xs, PCalls Tryz.prog Gl f [eBox x, .ptr 0 0] [.box cs] fun r s => r = .bool (p x) ∧ s = [.box cs]) :
  PCalls Tryz.prog Gl 66 [.sl (xs.map eBox), .fn f [.ptr 0 0]] [.box cs] fun r s => r = .bool (xs.any p) ∧ s = [.box cs] := by
 refine PCalls.of hT Tryz.func66 rfl 1 (Nat.le_refl _) fun B hD => ?_
 refine pw_normE rfl ?_
 (refine zGo ?_)
 refine pl_op rfl (op_call [0] rfl rfl e112 (by simp) rfl rfl (by simp only [List.all_cons, List.all_nil, Bool.and_true, List.getD_cons_zero]; exact (by simpa using box1 hcs [0].contains)) (cargs := [.sl (xs.map eBox), .fn f [.ptr 0 0]]) (cst := [.box cs]) zLe (by simp only [selSt, List.map_cons, List.map_nil, List.getD_cons_zero, PObj.ren_none hcs]; exact StLe.refl _) (c_idxBox hf hcs hl hp) ?_)
 rintro r s ⟨rfl, rfl⟩
 refine ⟨rfl, box1 hcs _, ?_⟩
 simp only [List.map_cons, List.map_nil, PObj.ren_none hcs]
 refine pl_normE rfl ?_
 (refine zGo ?_)
 exact ⟨_, _, _, rfl, ⟨by rw [firstAt_any]; rfl, rfl⟩, .inr (.inl rfl), ⟨.inr (.inl rfl), trivial⟩, rfl, box1 hcs _⟩

end
end Go.Proofs.YtokclomhkggikaaGreatDoor