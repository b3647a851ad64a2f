/-
 The reckoner's integers, strings and comparisons are right.
 Comparisons, lengths and places.
 Lengths, places, parts, slices of slices.
-/
import Derived.IntWalk
import Derived.Test.YtokclomhkggikaaGreatDoorVEvBase
import Derived.ChangeKeysEq
namespace Go.Ev
open Go
noncomputable section
theorem iff_none {b : Bool} {x : R} {o : List Dl} (h : iff b none x = some o) : b = false ∧ x = some o := by
 cases b
 ·exact ⟨rfl, h⟩
 ·cases h
theorem retB_eq (b : Bool) (K : V → R) : retB b K = K (.bool b) := fBool_eq b _
theorem addI_eq (a b : Int) (K : Int → R) : addI a b K = K (a + b) := by
 cases a <;> cases b <;> first | rfl | exact fInt_eq _ _
theorem subI_eq (a b : Int) (K : Int → R) : subI a b K = K (a - b) := by
 cases a with
 | negSucc x =>
  show fInt (Int.sub (.negSucc x) b) K = _
  exact fInt_eq _ _
 | ofNat x => cases b with
  | negSucc y =>
   show fInt (Int.sub (.ofNat x) (.negSucc y)) K = _
   exact fInt_eq _ _
  | ofNat y =>
   show iff (Nat.ble y x) (fNat (Nat.sub x y) fun z => K (.ofNat z)) (fNat (Nat.sub (Nat.sub y x) 1) fun z => K (.negSucc z)) = _
   simp only [fNat_eq]
   cases hb : Nat.ble y x with
   | true =>
    have := Nat.le_of_ble_eq_true hb
    show K (.ofNat (x - y)) = _
    congr 1
    show ((x - y : Nat) : Int) = (x : Int) - (y : Int)
    omega
   | false =>
    have : ¬ y ≤ x := fun h => by rw [Nat.ble_eq_true_of_le h] at hb; cases hb
    show K (.negSucc (y - x - 1)) = _
    congr 1
    rw [Int.negSucc_eq]
    show -(((y - x - 1 : Nat) : Int) + 1) = (x : Int) - (y : Int)
    omega
theorem mulI_eq (a b : Int) (K : Int → R) : mulI a b K = K (a * b) := by
 cases a <;> cases b <;> first | rfl | exact fInt_eq _ _
theorem ltI_eq (a b : Int) : ltI a b = decide (a < b) := by
 cases a with
 | ofNat x => cases b with
  | ofNat y =>
   show Nat.blt x y = _
   rw [Bool.eq_iff_iff, blt_iff]; simp
  | negSucc y => show false = _; simp; omega
 | negSucc x => cases b with
  | ofNat y => show true = _; simp; omega
  | negSucc y =>
   show Nat.blt y x = _
   rw [Bool.eq_iff_iff, blt_iff]; simp; omega
theorem eqI_eq (a b : Int) : eqI a b = (a == b) := by
 cases a with
 | ofNat x => cases b with
  | ofNat y =>
   show Nat.beq x y = _
   rw [Bool.eq_iff_iff, Nat.beq_eq]; simp; omega
  | negSucc y => show false = _; simp
 | negSucc x => cases b with
  | ofNat y => show false = _; simp
  | negSucc y =>
   show Nat.beq x y = _
   rw [Bool.eq_iff_iff, Nat.beq_eq]; simp
theorem isK_iff {k k' : IntKind} (h : isK k k' = true) : k' = k := by
 cases k <;> cases k' <;> first | rfl | cases h
theorem kindF_eq {γ : Type} (k : IntKind) (c : (IntKind → Bool) → Nat → Bool → γ) : kindF k c = c (isK k) (topN k) (sgnK k) := by cases k <;> rfl
theorem wrap_ofNat {k : IntKind} {m : Nat} (h : m ≤ topN k) : k.wrap (.ofNat m) = .ofNat m := by
 cases k <;> simp only [topN] at h
 ·exact IntWalk.i8_in (m : Int) (by omega)
 ·exact IntWalk.i16_in (m : Int) (by omega)
 ·exact IntWalk.i32_in (m : Int) (by omega)
 ·exact IntWalk.i64_in (m : Int) (by omega)
 ·exact IntWalk.u8_in (m : Int) (by omega)
 ·exact IntWalk.u16_in (m : Int) (by omega)
 ·exact IntWalk.u32_in (m : Int) (by omega)
 ·exact IntWalk.u64_in (m : Int) (by omega)
theorem wrap_negSucc {k : IntKind} {m : Nat} (hs : sgnK k = true) (h : m ≤ topN k) : k.wrap (.negSucc m) = .negSucc m := by
 cases k <;> simp only [sgnK] at hs <;> first | (cases hs; done) | skip
 all_goals simp only [topN] at h
 ·exact IntWalk.i8_in _ (by rw [Int.negSucc_eq]; omega)
 ·exact IntWalk.i16_in _ (by rw [Int.negSucc_eq]; omega)
 ·exact IntWalk.i32_in _ (by rw [Int.negSucc_eq]; omega)
 ·exact IntWalk.i64_in _ (by rw [Int.negSucc_eq]; omega)
theorem slowW_eq (k : IntKind) (n : Int) (K : V → R) : slowW k n K = K (.int k (k.wrap n)) := fInt_eq _ _
theorem wrapT_eq (k : IntKind) (n : Int) (K : V → R) : wrapT k (topN k) (sgnK k) n K = K (.int k (k.wrap n)) := by
 cases n with
 | ofNat m =>
  show iff (Nat.ble m (topN k)) (K (.int k (.ofNat m))) (slowW k (.ofNat m) K) = _
  cases hb : Nat.ble m (topN k) with
  | true => rw [wrap_ofNat (Nat.le_of_ble_eq_true hb)]; rfl
  | false => exact slowW_eq ..
 | negSucc m =>
  show iff (sgnK k) (iff (Nat.ble m (topN k)) (K (.int k (.negSucc m))) (slowW k (.negSucc m) K)) (slowW k (.negSucc m) K) = _
  cases hs : sgnK k with
  | false => exact slowW_eq ..
  | true => cases hb : Nat.ble m (topN k) with
   | true => rw [wrap_negSucc hs (Nat.le_of_ble_eq_true hb)]; rfl
   | false => exact slowW_eq ..
section
variable {P : Program} {gl : List (Nat × List V)} {CO : Call → Prop} {β : List Nat}
theorem iop_spec {op : BinOp} {f : IOp} (hf : intOp op = some f) {k : IntKind} {a b : Int} {K : V → R} {outs : List Dl} (h : f k (topN k) (sgnK k) a b K = some outs) :
  ∃ x v, K x = some outs ∧ (∀ β, Den β x v) ∧ ∀ T w, (Go.binOp op T (.int k a) (.int k b)).run P w = .ok v w := by
 have wr : ∀ n : Int, K (.int k (k.wrap n)) = some outs → (∀ T w, (Go.binOp op T (.int k a) (.int k b)).run P w = .ok (.int k (k.wrap n)) w) → ∃ x v, K x = some outs ∧ (∀ β, Den β x v) ∧ ∀ T w, (Go.binOp op T (.int k a) (.int k b)).run P w = .ok v w :=
  fun n h1 h2 => ⟨_, _, h1, fun β => .int .., h2⟩
 have bo : ∀ c : Bool, K (.bool c) = some outs → (∀ T w, (Go.binOp op T (.int k a) (.int k b)).run P w = .ok (.bool c) w) → ∃ x v, K x = some outs ∧ (∀ β, Den β x v) ∧ ∀ T w, (Go.binOp op T (.int k a) (.int k b)).run P w = .ok v w :=
  fun n h1 h2 => ⟨_, _, h1, fun β => .bool .., h2⟩
 cases op <;> simp only [intOp, Option.some.injEq, reduceCtorEq] at hf <;> subst hf
 case add => simp only [iAdd, addI_eq, wrapT_eq] at h; exact wr _ h fun T w => by simp [Go.binOp, Op.intArith]
 case sub => simp only [iSub, subI_eq, wrapT_eq] at h; exact wr _ h fun T w => by simp [Go.binOp, Op.intArith]
 case mul => simp only [iMul, mulI_eq, wrapT_eq] at h; exact wr _ h fun T w => by simp [Go.binOp, Op.intArith]
 case quo =>
  obtain ⟨h0, h⟩ := iff_none h
  rw [eqI_eq] at h0
  have h0' : ¬ b = 0 := by simpa using h0
  rw [slowW_eq] at h
  exact wr _ h fun T w => by simp [Go.binOp, Op.intDiv, h0']
 case rem =>
  obtain ⟨h0, h⟩ := iff_none h
  rw [eqI_eq] at h0
  have h0' : ¬ b = 0 := by simpa using h0
  rw [fInt_eq] at h
  exact ⟨_, _, h, fun β => .int .., fun T w => by simp [Go.binOp, Op.intDiv, h0']⟩
 case lss => simp only [iLss, retB_eq, ltI_eq] at h; exact bo _ h fun T w => by simp [Go.binOp, Op.intCmp]
 case leq => simp only [iLeq, retB_eq, ltI_eq] at h; exact bo _ h fun T w => by simp [Go.binOp, Op.intCmp]; rw [Bool.eq_iff_iff]; simp
 case gtr => simp only [iGtr, retB_eq, ltI_eq] at h; exact bo _ h fun T w => by simp [Go.binOp, Op.intCmp]
 case geq => simp only [iGeq, retB_eq, ltI_eq] at h; exact bo _ h fun T w => by simp [Go.binOp, Op.intCmp]; rw [Bool.eq_iff_iff]; simp
 case eql => simp only [iEql, retB_eq, eqI_eq] at h; exact bo _ h fun T w => by simp [Go.binOp, Op.intCmp]
 case neq => simp only [iNeq, retB_eq, eqI_eq] at h; exact bo _ h fun T w => by simp [Go.binOp, Op.intCmp]; rfl
 case and => simp only [iAnd, slowW_eq] at h; exact wr _ h fun T w => by simp [Go.binOp, Op.intBits]
 case or => simp only [iOr, slowW_eq] at h; exact wr _ h fun T w => by simp [Go.binOp, Op.intBits]
 case xor => simp only [iXor, slowW_eq] at h; exact wr _ h fun T w => by simp [Go.binOp, Op.intBits]
 case andNot => simp only [iAndNot, slowW_eq] at h; exact wr _ h fun T w => by simp [Go.binOp, Op.intBits]
theorem run_eqGuard_int (op : BinOp) (T : TypeId) (x y : Operand) (k k' : IntKind) (a b : Int) (w : World) : (eqGuard op T x y (.int k a) (.int k' b)).run P w = .ok () w := by
 cases op <;> simp [eqGuard]
theorem ok_binI {op : BinOp} {T T' : TypeId} {x y : Operand} {f : IOp} {k : IntKind} (hf : intOp op = some f) : ValOk P gl CO (.binOp op T x y T') (sBinI (isK k) (f k (topN k) (sgnK k)) (opG x) (opG y)) := fun o ho call hc env st K outs hok h => fun B w β tmps hi he => by
 obtain ⟨p, hd, h⟩ := opG_den he h
 obtain ⟨k1, a, rfl, h⟩ := vInt_some h
 obtain ⟨hk1, h⟩ := iff_some h
 obtain rfl := isK_iff hk1
 obtain ⟨q, hq, h⟩ := opG_den he h
 obtain ⟨k2, b, rfl, h⟩ := vInt_some h
 obtain ⟨hk2, h⟩ := iff_some h
 obtain rfl := isK_iff hk2
 obtain ⟨z, v, hK, hz, hr⟩ := iop_spec (P := P) hf h
 exact ⟨z, v, by simp only [execOp, ho, hd.int_inv, hq.int_inv, Sem.run_bind, run_eqGuard_int, Result.andThen_ok, hr, Sem.run_pure], hz β, .of hK⟩
theorem ok_shI {op : BinOp} {T T' : TypeId} {x y : Operand} {f : IntKind → Int → Int → (V → R) → R} (hf : shOp op = some f) : ValOk P gl CO (.binOp op T x y T') (sShI f (opG x) (opG y)) := fun o ho call hc env st K outs hok h => fun B w β tmps hi he => by
 obtain ⟨p, hd, h⟩ := opG_den he h
 obtain ⟨k, a, rfl, h⟩ := vInt_some h
 obtain ⟨q, hq, h⟩ := opG_den he h
 obtain ⟨k2, b, rfl, h⟩ := vInt_some h
 cases op <;> simp only [shOp, Option.some.injEq, reduceCtorEq] at hf <;> subst hf
 case shl =>
  obtain ⟨h0, h⟩ := iff_none h
  rw [ltI_eq] at h0
  have h0' : ¬ b < 0 := by simpa using h0
  rw [slowW_eq] at h
  exact ⟨_, _, by simp only [execOp, ho, hd.int_inv, hq.int_inv, Sem.run_bind, run_eqGuard_int, Result.andThen_ok, Go.binOp, Op.shift, if_neg h0', Sem.run_pure], .int .., .of h⟩
 case shr =>
  obtain ⟨h0, h⟩ := iff_none h
  rw [ltI_eq] at h0
  have h0' : ¬ b < 0 := by simpa using h0
  rw [fInt_eq] at h
  exact ⟨_, _, by simp only [execOp, ho, hd.int_inv, hq.int_inv, Sem.run_bind, run_eqGuard_int, Result.andThen_ok, Go.binOp, Op.shift, if_neg h0', Sem.run_pure], .int .., .of h⟩
theorem eqB_eq : ∀ a b : List UInt8, eqB a b = (a == b)
 | [], [] => rfl
 | [], _ :: _ => rfl
 | _ :: _, [] => rfl
 | x :: xs, y :: ys => by
  have e : Nat.beq x.toNat y.toNat = (x == y) := by rw [Bool.eq_iff_iff, Nat.beq_eq]; simp [UInt8.toNat_inj]
  simp only [eqB, eqB_eq xs ys, e]
  rfl
theorem ltB_eq : ∀ a b : List UInt8, ltB a b = Op.bytesLess a b
 | [], [] => rfl
 | [], _ :: _ => rfl
 | _ :: _, [] => rfl
 | x :: xs, y :: ys => by
  have e : Nat.beq x.toNat y.toNat = (x == y) := by rw [Bool.eq_iff_iff, Nat.beq_eq]; simp [UInt8.toNat_inj]
  have l : Nat.blt x.toNat y.toNat = decide (x < y) := by rw [Bool.eq_iff_iff, blt_iff]; simp [UInt8.lt_iff_toNat_lt]
  simp only [ltB, ltB_eq xs ys, e, l, Op.bytesLess]
theorem ok_binS {op : BinOp} {T T' : TypeId} {x y : Operand} : ValOk P gl CO (.binOp op T x y T') (sBinS op (opG x) (opG y)) := fun o ho call hc env st K outs hok h => fun B w β tmps hi he => by
 obtain ⟨p, hd, h⟩ := opG_den he h
 obtain ⟨q, hq, h⟩ := opG_den he h
 obtain ⟨a, rfl⟩ : ∃ a, p = .str a := by cases p <;> first | (cases h; done) | exact ⟨_, rfl⟩
 obtain ⟨b, rfl⟩ : ∃ b, q = .str b := by cases q <;> first | (cases h; done) | exact ⟨_, rfl⟩
 change strOp op a b (fun v => K v st) = some outs at h
 have eg : ∀ w, (eqGuard op T x y (.string ⟨a.toArray⟩) (.string ⟨b.toArray⟩)).run P w = .ok () w := fun w => by cases op <;> simp [eqGuard]
 have run : ∀ v, (Op.stringOp op (⟨a.toArray⟩ : ByteArray) (⟨b.toArray⟩ : ByteArray)).run P w = .ok v w → (execOp (⟨tmps.toArray, []⟩ : Act).eval o).run P w = .ok (.value v) w := fun v hv => by
  simp only [execOp, ho, hd.str_inv, hq.str_inv, Sem.run_bind, eg, Result.andThen_ok, Sem.run_pure]
  have : (Go.binOp op T (.string ⟨a.toArray⟩) (.string ⟨b.toArray⟩)).run P w = .ok v w := by rw [← hv]; cases op <;> rfl
  rw [this]; rfl
 cases op <;> simp only [strOp, retB_eq, eqB_eq, ltB_eq, reduceCtorEq] at h
 case add =>
  obtain ⟨hb, h⟩ := iff_some h
  have := Nat.le_of_ble_eq_true hb
  rw [appK_eq] at h
  refine ⟨_, .string ((⟨a.toArray⟩ : ByteArray) ++ ⟨b.toArray⟩), run _ ?_, ?_, .of h⟩
  ·have hs : ¬ ((((⟨a.toArray⟩ : ByteArray).size + (⟨b.toArray⟩ : ByteArray).size : Nat) : Int) > IntKind.i64.max) := by
    have h1 : (⟨a.toArray⟩ : ByteArray).size = a.length := by simp [ByteArray.size]
    have h2 : (⟨b.toArray⟩ : ByteArray).size = b.length := by simp [ByteArray.size]
    rw [h1, h2]
    have : IntKind.i64.max = 9223372036854775807 := rfl
    rw [this]; omega
   simp only [Op.stringOp, if_neg hs, Sem.run_pure]
  ·have e : (⟨a.toArray⟩ : ByteArray) ++ ⟨b.toArray⟩ = ⟨(a ++ b).toArray⟩ := by
    apply ByteArray.ext
    simp [ByteArray.data_append]
   rw [e]; exact .str _
 case eql => exact ⟨_, _, run _ (by simp [Op.stringOp, ByteArray.toList_eq]), .bool .., .of h⟩
 case neq => exact ⟨_, _, run _ (by simp [Op.stringOp, ByteArray.toList_eq]), .bool .., .of h⟩
 case lss => exact ⟨_, _, run _ (by simp [Op.stringOp, ByteArray.toList_eq]), .bool .., .of h⟩
 case leq => exact ⟨_, _, run _ (by simp [Op.stringOp, ByteArray.toList_eq]), .bool .., .of h⟩
 case gtr => exact ⟨_, _, run _ (by simp [Op.stringOp, ByteArray.toList_eq]), .bool .., .of h⟩
 case geq => exact ⟨_, _, run _ (by simp [Op.stringOp, ByteArray.toList_eq]), .bool .., .of h⟩
end
end
end Go.Ev
namespace Go.Ev
open Go
noncomputable section
section
variable {P : Program} {gl : List (Nat × List V)} {CO : Call → Prop} {β : List Nat}
theorem run_eqGuard_plain (op : BinOp) (T : TypeId) (x y : Operand) {a b : Value} (h1 : ¬ (a = .nilIface ∧ b = .nilIface)) (h2 : ∀ cs ds, ¬ (a = .agg cs ∧ b = .agg ds)) (w : World) : (eqGuard op T x y a b).run P w = .ok () w := by
 unfold eqGuard
 split
 ·simp only [Bool.not_true, Bool.false_eq_true, if_false]
  split
  ·exact (h1 ⟨rfl, rfl⟩).elim
  ·exact (h2 _ _ ⟨rfl, rfl⟩).elim
  ·rfl
 ·simp only [Bool.not_true, Bool.false_eq_true, if_false]
  split
  ·exact (h1 ⟨rfl, rfl⟩).elim
  ·exact (h2 _ _ ⟨rfl, rfl⟩).elim
  ·rfl
 ·simp only [Bool.not_false, if_true]; rfl
theorem ok_binB {op : BinOp} {T T' : TypeId} {x y : Operand} (ht : tkT P T = some .bool) : ValOk P gl CO (.binOp op T x y T') (sBinB op (opG x) (opG y)) := fun o ho call hc env st K outs hok h => fun B w β tmps hi he => by
 obtain ⟨i, d, hi1, hu, htk⟩ := tkT_spec ht
 obtain rfl := tkOf_bool htk
 obtain ⟨p, hd, h⟩ := opG_den he h
 obtain ⟨q, hq, h⟩ := opG_den he h
 obtain ⟨a, rfl⟩ : ∃ a, p = .bool a := by cases p <;> first | (cases h; done) | exact ⟨_, rfl⟩
 obtain ⟨b, rfl⟩ : ∃ b, q = .bool b := by cases q <;> first | (cases h; done) | exact ⟨_, rfl⟩
 change boolOp op a b (fun v => K v st) = some outs at h
 have eg := run_eqGuard_plain (P := P) op T x y (a := .bool a) (b := .bool b) (by simp) (by simp) w
 have hq1 := run_equalIn_bool' (P := P) w 9999 T a b hu
 cases op <;> simp only [boolOp, retB_eq, reduceCtorEq] at h
 case eql =>
  refine ⟨_, _, ?_, .bool .., .of h⟩
  simp only [execOp, ho, hd.bool_inv, hq.bool_inv, Sem.run_bind, eg, Result.andThen_ok, Go.binOp, Op.equal, Op.maxDepth, Sem.run_pure]
  rw [show (10000 : Nat) = 9999 + 1 from rfl, hq1]; rfl
 case neq =>
  refine ⟨_, .bool (a != b), ?_, .bool .., .of h⟩
  simp only [execOp, ho, hd.bool_inv, hq.bool_inv, Sem.run_bind, eg, Result.andThen_ok, Go.binOp, Op.equal, Op.maxDepth, Sem.run_pure]
  rw [show (10000 : Nat) = 9999 + 1 from rfl, hq1]; rfl
theorem isEq_spec {op : BinOp} {b : Bool} (h : isEq op = some b) : (op = .eql ∧ b = false) ∨ (op = .neq ∧ b = true) := by
 cases op <;> simp only [isEq, Option.some.injEq, reduceCtorEq] at h
 ·exact .inl ⟨rfl, h.symm⟩
 ·exact .inr ⟨rfl, h.symm⟩
theorem run_eq_ne {op : BinOp} {neg : Bool} (hop : isEq op = some neg) {T T' : TypeId} {x y : Operand} {o : Oper} (ho : o.op = .binOp op T x y T') {tmps : List Value} {vx vy : Value} {r : Bool} {w : World}
  (hx : (⟨tmps.toArray, []⟩ : Act).eval x = vx) (hy : (⟨tmps.toArray, []⟩ : Act).eval y = vy) (hg : (eqGuard op T x y vx vy).run P w = .ok () w) (hn : ∀ op, (op = .eql ∨ op = .neq) → Go.binOp op T vx vy = (match op with | .eql => do pure (.bool (← Op.equal T vx vy)) | _ => do pure (.bool (!(← Op.equal T vx vy)))))
  (hr : (Op.equal T vx vy).run P w = .ok r w) : (execOp (⟨tmps.toArray, []⟩ : Act).eval o).run P w = .ok (.value (.bool (r != neg))) w := by
 simp only [execOp, ho, hx, hy, Sem.run_bind, hg, Result.andThen_ok]
 rcases isEq_spec hop with ⟨rfl, rfl⟩ | ⟨rfl, rfl⟩
 ·rw [hn _ (.inl rfl)]
  simp [hr]
 ·rw [hn _ (.inr rfl)]
  simp [hr]
section nil
variable {T : TypeId} {d : Nat} {w : World}
theorem eqn_p1 {e : TypeId} (hu : P.underlying T = some (.pointer e)) (b : Option Addr) : (Op.equalIn (d + 1) T (.pointer none) (.pointer b)).run P w = .ok b.isNone w := by
 simp only [Op.equalIn, Sem.run_bind, run_underlying hu, Result.andThen_ok, Sem.run_pure]
theorem eqn_p2 {e : TypeId} (hu : P.underlying T = some (.pointer e)) (a : Addr) : (Op.equalIn (d + 1) T (.pointer (some a)) (.pointer none)).run P w = .ok false w := by
 simp only [Op.equalIn, Sem.run_bind, run_underlying hu, Result.andThen_ok, Sem.run_pure]
theorem eqn_s1 {e : TypeId} (hu : P.underlying T = some (.slice e)) (n m n' m' : Nat) (b : Option Addr) : (Op.equalIn (d + 1) T (.slice none n m) (.slice b n' m')).run P w = .ok b.isNone w := by
 simp only [Op.equalIn, Sem.run_bind, run_underlying hu, Result.andThen_ok, Sem.run_pure]
theorem eqn_s2 {e : TypeId} (hu : P.underlying T = some (.slice e)) (n m n' m' : Nat) (a : Addr) : (Op.equalIn (d + 1) T (.slice (some a) n m) (.slice none n' m')).run P w = .ok false w := by
 simp only [Op.equalIn, Sem.run_bind, run_underlying hu, Result.andThen_ok, Sem.run_pure]
theorem eqn_m1 {k e : TypeId} (hu : P.underlying T = some (.map k e)) (b : Option Nat) : (Op.equalIn (d + 1) T (.map none) (.map b)).run P w = .ok b.isNone w := by
 simp only [Op.equalIn, Sem.run_bind, run_underlying hu, Result.andThen_ok, Sem.run_pure]
theorem eqn_m2 {k e : TypeId} (hu : P.underlying T = some (.map k e)) (a : Nat) : (Op.equalIn (d + 1) T (.map (some a)) (.map none)).run P w = .ok false w := by
 simp only [Op.equalIn, Sem.run_bind, run_underlying hu, Result.andThen_ok, Sem.run_pure]
theorem eqn_f0 {a b c} (hu : P.underlying T = some (.func a b c)) : (Op.equalIn (d + 1) T .nilFunc .nilFunc).run P w = .ok true w := by
 simp only [Op.equalIn, Sem.run_bind, run_underlying hu, Result.andThen_ok, Sem.run_pure]
theorem eqn_f1 {a b c} (hu : P.underlying T = some (.func a b c)) (f x y) : (Op.equalIn (d + 1) T .nilFunc (.func f x y)).run P w = .ok false w := by
 simp only [Op.equalIn, Sem.run_bind, run_underlying hu, Result.andThen_ok, Sem.run_pure]
theorem eqn_f2 {a b c} (hu : P.underlying T = some (.func a b c)) (f x y) : (Op.equalIn (d + 1) T (.func f x y) .nilFunc).run P w = .ok false w := by
 simp only [Op.equalIn, Sem.run_bind, run_underlying hu, Result.andThen_ok, Sem.run_pure]
end nil
def NilT : NK → TypeDesc → Prop
 | .p, d => ∃ e, d = .pointer e
 | .s, d => ∃ e, d = .slice e
 | .m, d => ∃ k e, d = .map k e
 | .f, d => ∃ a b c, d = .func a b c
theorem nil_spec {nk : NK} {d : TypeDesc} (hd : NilT nk d) {T : TypeId} (hu : P.underlying T = some d) {x y : V} {vx vy : Value} (hx : Den β x vx) (hy : Den β y vy) {r : Bool} (h : eqNilV nk x y = some r) (w : World) :
  (Op.equal T vx vy).run P w = .ok r w ∧ (∀ op, (op = .eql ∨ op = .neq) → Go.binOp op T vx vy = (match op with | .eql => do pure (.bool (← Op.equal T vx vy)) | _ => do pure (.bool (!(← Op.equal T vx vy))))) ∧
   (¬ (vx = .nilIface ∧ vy = .nilIface)) ∧ (∀ cs ds, ¬ (vx = .agg cs ∧ vy = .agg ds)) := by
 have eqv : ∀ {a b : V} {r}, eqNilV nk a b = some r → (isNilV nk a = some true ∧ isNilV nk b = some r) ∨ (isNilV nk a = some false ∧ isNilV nk b = some true ∧ r = false) := by
  intro a b r h
  unfold eqNilV at h
  split at h
  ·rename_i h1; exact .inl ⟨h1, h⟩
  ·rename_i h1
   split at h
   ·rename_i h2; cases h; exact .inr ⟨h1, h2, rfl⟩
   ·cases h
  ·cases h
 have he := eqv h
 cases nk with
 | p =>
  obtain ⟨e, rfl⟩ := hd
  rcases he with ⟨h1, h2⟩ | ⟨h1, h2, rfl⟩
  ·cases x <;> simp only [isNilV, Option.some.injEq, reduceCtorEq, Bool.false_eq_true] at h1
   cases hx
   cases y <;> simp only [isNilV, Option.some.injEq, reduceCtorEq] at h2 <;> subst h2 <;> cases hy <;>
    exact ⟨by show (Op.equalIn (9999 + 1) T _ _).run P w = _; first | exact eqn_p1 hu _ | exact eqn_p2 hu _ | exact eqn_s1 hu .. | exact eqn_s2 hu .. | exact eqn_m1 hu _ | exact eqn_m2 hu _ | exact eqn_f0 hu | exact eqn_f1 hu .. | exact eqn_f2 hu .., fun op ho => by rcases ho with rfl | rfl <;> rfl, by simp, by simp⟩
  ·cases y <;> simp only [isNilV, Option.some.injEq, reduceCtorEq, Bool.false_eq_true] at h2
   cases hy
   cases x <;> simp only [isNilV, Option.some.injEq, reduceCtorEq, Bool.true_eq_false] at h1 <;> cases hx <;>
    exact ⟨by show (Op.equalIn (9999 + 1) T _ _).run P w = _; first | exact eqn_p1 hu _ | exact eqn_p2 hu _ | exact eqn_s1 hu .. | exact eqn_s2 hu .. | exact eqn_m1 hu _ | exact eqn_m2 hu _ | exact eqn_f0 hu | exact eqn_f1 hu .. | exact eqn_f2 hu .., fun op ho => by rcases ho with rfl | rfl <;> rfl, by simp, by simp⟩
 | s =>
  obtain ⟨e, rfl⟩ := hd
  rcases he with ⟨h1, h2⟩ | ⟨h1, h2, rfl⟩
  ·cases x <;> simp only [isNilV, Option.some.injEq, reduceCtorEq, Bool.false_eq_true] at h1
   cases hx
   cases y <;> simp only [isNilV, Option.some.injEq, reduceCtorEq] at h2 <;> subst h2 <;> cases hy <;>
    exact ⟨by show (Op.equalIn (9999 + 1) T _ _).run P w = _; first | exact eqn_p1 hu _ | exact eqn_p2 hu _ | exact eqn_s1 hu .. | exact eqn_s2 hu .. | exact eqn_m1 hu _ | exact eqn_m2 hu _ | exact eqn_f0 hu | exact eqn_f1 hu .. | exact eqn_f2 hu .., fun op ho => by rcases ho with rfl | rfl <;> rfl, by simp, by simp⟩
  ·cases y <;> simp only [isNilV, Option.some.injEq, reduceCtorEq, Bool.false_eq_true] at h2
   cases hy
   cases x <;> simp only [isNilV, Option.some.injEq, reduceCtorEq, Bool.true_eq_false] at h1 <;> cases hx <;>
    exact ⟨by show (Op.equalIn (9999 + 1) T _ _).run P w = _; first | exact eqn_p1 hu _ | exact eqn_p2 hu _ | exact eqn_s1 hu .. | exact eqn_s2 hu .. | exact eqn_m1 hu _ | exact eqn_m2 hu _ | exact eqn_f0 hu | exact eqn_f1 hu .. | exact eqn_f2 hu .., fun op ho => by rcases ho with rfl | rfl <;> rfl, by simp, by simp⟩
 | m =>
  obtain ⟨k, e, rfl⟩ := hd
  rcases he with ⟨h1, h2⟩ | ⟨h1, h2, rfl⟩
  ·cases x <;> simp only [isNilV, Option.some.injEq, reduceCtorEq, Bool.false_eq_true] at h1
   cases hx
   cases y <;> simp only [isNilV, Option.some.injEq, reduceCtorEq] at h2 <;> subst h2 <;> cases hy <;>
    exact ⟨by show (Op.equalIn (9999 + 1) T _ _).run P w = _; first | exact eqn_p1 hu _ | exact eqn_p2 hu _ | exact eqn_s1 hu .. | exact eqn_s2 hu .. | exact eqn_m1 hu _ | exact eqn_m2 hu _ | exact eqn_f0 hu | exact eqn_f1 hu .. | exact eqn_f2 hu .., fun op ho => by rcases ho with rfl | rfl <;> rfl, by simp, by simp⟩
  ·cases y <;> simp only [isNilV, Option.some.injEq, reduceCtorEq, Bool.false_eq_true] at h2
   cases hy
   cases x <;> simp only [isNilV, Option.some.injEq, reduceCtorEq, Bool.true_eq_false] at h1 <;> cases hx <;>
    exact ⟨by show (Op.equalIn (9999 + 1) T _ _).run P w = _; first | exact eqn_p1 hu _ | exact eqn_p2 hu _ | exact eqn_s1 hu .. | exact eqn_s2 hu .. | exact eqn_m1 hu _ | exact eqn_m2 hu _ | exact eqn_f0 hu | exact eqn_f1 hu .. | exact eqn_f2 hu .., fun op ho => by rcases ho with rfl | rfl <;> rfl, by simp, by simp⟩
 | f =>
  obtain ⟨a, b, c, rfl⟩ := hd
  rcases he with ⟨h1, h2⟩ | ⟨h1, h2, rfl⟩
  ·cases x <;> simp only [isNilV, Option.some.injEq, reduceCtorEq, Bool.false_eq_true] at h1
   cases hx
   cases y <;> simp only [isNilV, Option.some.injEq, reduceCtorEq] at h2 <;> subst h2 <;> cases hy <;>
    exact ⟨by show (Op.equalIn (9999 + 1) T _ _).run P w = _; first | exact eqn_p1 hu _ | exact eqn_p2 hu _ | exact eqn_s1 hu .. | exact eqn_s2 hu .. | exact eqn_m1 hu _ | exact eqn_m2 hu _ | exact eqn_f0 hu | exact eqn_f1 hu .. | exact eqn_f2 hu .., fun op ho => by rcases ho with rfl | rfl <;> rfl, by simp, by simp⟩
  ·cases y <;> simp only [isNilV, Option.some.injEq, reduceCtorEq, Bool.false_eq_true] at h2
   cases hy
   cases x <;> simp only [isNilV, Option.some.injEq, reduceCtorEq, Bool.true_eq_false] at h1 <;> cases hx <;>
    exact ⟨by show (Op.equalIn (9999 + 1) T _ _).run P w = _; first | exact eqn_p1 hu _ | exact eqn_p2 hu _ | exact eqn_s1 hu .. | exact eqn_s2 hu .. | exact eqn_m1 hu _ | exact eqn_m2 hu _ | exact eqn_f0 hu | exact eqn_f1 hu .. | exact eqn_f2 hu .., fun op ho => by rcases ho with rfl | rfl <;> rfl, by simp, by simp⟩
theorem ok_eqNil {nk : NK} {op : BinOp} {neg : Bool} (hop : isEq op = some neg) {T T' : TypeId} {x y : Operand} {d : TypeDesc} (hd : NilT nk d) (hu : P.underlying T = some d) :
  ValOk P gl CO (.binOp op T x y T') (sEqNil nk neg (opG x) (opG y)) := fun o ho call hc env st K outs hok h => fun B w β tmps hi he => by
 obtain ⟨p, hdx, h⟩ := opG_den he h
 obtain ⟨q, hdy, h⟩ := opG_den he h
 cases hr : eqNilV nk p q with
 | none => rw [hr] at h; cases h
 | some r =>
  rw [hr] at h
  change retB (r != neg) (fun v => K v st) = some outs at h
  rw [retB_eq] at h
  obtain ⟨h1, h2, h3, h4⟩ := nil_spec (P := P) hd hu hdx hdy hr w
  exact ⟨_, _, run_eq_ne hop ho rfl rfl (run_eqGuard_plain op T x y h3 h4 w) h2 h1, .bool .., .of h⟩
theorem partV_spec {ag : Bool} {cs : List V} {off n : Nat} {x : V} (h : partV ag cs off n = some x) : PartR ag cs off n x := by
 unfold partV at h
 cases ag with
 | true =>
  simp only at h
  split at h
  ·rename_i hb; cases h; exact .inl ⟨rfl, Nat.le_of_ble_eq_true hb, rfl⟩
  ·cases h
 | false => exact .inr ⟨rfl, h⟩
def EqOk (P : Program) (β : List Nat) (w : World) (N : Nat) (t : TypeId) (r : V → V → Option Bool) : Prop :=
 ∀ x y b vx vy, r x y = some b → Den β x vx → Den β y vy → (Op.equalIn N t vx vy).run P w = .ok b w
theorem eqFs_ok {w : World} {N d : Nat} {xs ys : List V} {vs us : List Value} (hx : DenL β xs vs) (hx1 : ∀ u ∈ vs, u.oneCell' = true) (hy : DenL β ys us) (hy1 : ∀ u ∈ us, u.oneCell' = true) {r : TypeId → Option ETy}
  (hr : ∀ t e, r t = some e → EqOk P β w N t (eqE d e)) : ∀ (fs : List Field) (l : List (Nat × Nat × Bool × ETy)) (b : Bool), etyF P r fs = some l → eqFs (eqE d) xs ys l = some b → (Op.eqFields N vs.toArray us.toArray fs).run P w = .ok b w
 | [], l, b, hl, h => by
  cases hl
  cases h
  simp [Op.eqFields]
 | f :: fs, l, b, hl, h => by
  unfold etyF at hl
  split at hl
  ·rename_i hn
   have hn' : f.name ≠ "_" := by simpa using hn
   split at hl
   ·rename_i q hq
    obtain ⟨s, d', hs, hd', rfl⟩ := fldOf_spec hq
    split at hl
    ·rename_i e hre
     split at hl
     ·rename_i l' hl'
      cases hl
      unfold eqFs at h
      split at h
      ·rename_i a c ha hb
       obtain ⟨va, ra, da⟩ := run_part (P := P) (w := w) hx hx1 hd' hs (.inl (partV_spec ha))
       obtain ⟨vb, rb, db⟩ := run_part (P := P) (w := w) hy hy1 hd' hs (.inl (partV_spec hb))
       split at h
       ·rename_i hq1
        have he := hr _ _ hre _ _ _ _ _ hq1 da db
        have hrest := eqFs_ok hx hx1 hy hy1 hr fs l' b hl' h
        simp only [Op.eqFields, hn', ne_eq, not_false_eq_true, if_true, Sem.run_bind, ra, rb, he, Result.andThen_ok]
        simpa using hrest
       ·rename_i hq1
        cases h
        have he := hr _ _ hre _ _ _ _ _ hq1 da db
        simp [Op.eqFields, hn', ra, rb, he]
       ·cases h
      ·cases h
     ·cases hl
    ·cases hl
   ·cases hl
  ·cases hl
theorem eqAs_ok {w : World} {N d : Nat} {xs ys : List V} {vs us : List Value} (hx : DenL β xs vs) (hx1 : ∀ u ∈ vs, u.oneCell' = true) (hy : DenL β ys us) (hy1 : ∀ u ∈ us, u.oneCell' = true) {t : TypeId} {dd : TypeDesc} {k : Nat} (hu : P.underlying t = some dd) (hs : szOf P t = some k) {e : ETy}
  (hr : EqOk P β w N t (eqE d e)) : ∀ (n i : Nat) (b : Bool), eqAs (eqE d e) (aggD dd) k xs ys i n = some b → (Op.eqItems N t k vs.toArray us.toArray (List.range' i n)).run P w = .ok b w
 | 0, i, b, h => by cases h; simp [Op.eqItems]
 | n + 1, i, b, h => by
  unfold eqAs at h
  split at h
  ·rename_i a c ha hb
   obtain ⟨va, ra, da⟩ := run_part (P := P) (w := w) hx hx1 hu hs (.inl (partV_spec ha))
   obtain ⟨vb, rb, db⟩ := run_part (P := P) (w := w) hy hy1 hu hs (.inl (partV_spec hb))
   split at h
   ·rename_i hq1
    have he := hr _ _ _ _ _ hq1 da db
    have hrest := eqAs_ok hx hx1 hy hy1 hu hs hr n (i + 1) b h
    simp only [List.range'_succ, Op.eqItems, Sem.run_bind, ra, rb, he, Result.andThen_ok]
    simpa using hrest
   ·rename_i hq1
    cases h
    have he := hr _ _ _ _ _ hq1 da db
    simp [List.range'_succ, Op.eqItems, ra, rb, he]
   ·cases h
  ·cases h
theorem cellsOf_sz {t : TypeId} {k : Nat} (h : szOf P t = some k) : P.cellsOf t = k := by
 unfold szOf at h
 unfold Program.cellsOf
 rw [h]; rfl
theorem eqE_ok {w : World} : ∀ (d n N : Nat) (t : TypeId) (e : ETy), d ≤ N → etyOf P n t = some e → EqOk P β w N t (eqE d e)
 | 0, n, N, t, e, _, _ => fun x y b vx vy h => by cases h
 | d + 1, n, N, t, e, hN, ht => fun x y b vx vy h hx hy => by
  cases n with
  | zero => cases ht
  | succ n =>
  obtain ⟨N, rfl⟩ : ∃ M, N = M + 1 := ⟨N - 1, by omega⟩
  unfold etyOf at ht
  split at ht
  ·rename_i hu
   cases ht
   change eqC .b x y = some b at h
   cases x <;> cases y <;> first | (cases h; done) | skip
   cases h
   rw [hx.bool_inv, hy.bool_inv]
   exact run_equalIn_bool' w N t _ _ hu
  ·rename_i k hu
   cases ht
   change eqC .i x y = some b at h
   cases x <;> cases y <;> first | (cases h; done) | skip
   simp only [eqC] at h
   split at h
   ·rename_i hk
    cases h
    obtain rfl := isK_iff hk
    rw [hx.int_inv, hy.int_inv, eqI_eq]
    exact run_equalIn_int w N t _ _ _ _ hu
   ·cases h
  ·rename_i hu
   cases ht
   change eqC .s x y = some b at h
   cases x <;> cases y <;> first | (cases h; done) | skip
   simp only [eqC, eqB_eq, Option.some.injEq] at h
   subst h
   rename_i a c
   rw [hx.str_inv, hy.str_inv]
   have := run_equalIn_string (P := P) w N t (⟨a.toArray⟩ : ByteArray) (⟨c.toArray⟩ : ByteArray) hu
   rw [ByteArray.toList_eq, ByteArray.toList_eq] at this
   exact this
  ·rename_i m e' hu
   split at ht
   ·rename_i r hr
    split at ht
    ·rename_i k hk
     split at ht
     ·rename_i dd hd
      cases ht
      obtain ⟨xs, rfl⟩ : ∃ xs, x = .agg xs := by cases x <;> first | (cases h; done) | exact ⟨_, rfl⟩
      obtain ⟨ys, rfl⟩ : ∃ ys, y = .agg ys := by cases y <;> first | (cases h; done) | exact ⟨_, rfl⟩
      change eqAs (eqE d r) (aggD dd) k xs ys 0 m = some b at h
      obtain ⟨vs, rfl, hl1, h1⟩ := hx.agg_inv
      obtain ⟨us, rfl, hl2, h2⟩ := hy.agg_inv
      have hki : ∃ i, P.info? e' = some i := by
       unfold szOf at hk
       cases hi : P.info? e' with
       | none => rw [hi] at hk; cases hk
       | some i => exact ⟨i, rfl⟩
      obtain ⟨i, hi⟩ := hki
      rw [run_equalIn_array w N _ _ hu hi, cellsOf_sz hk, List.range_eq_range']
      exact eqAs_ok hl1 h1 hl2 h2 hd hk (eqE_ok d n N e' r (by omega) hr) m 0 b h
     ·cases ht
    ·cases ht
   ·cases ht
  ·rename_i fs hu
   split at ht
   ·cases ht
   ·rename_i hsh
    split at ht
    ·rename_i l hl
     cases ht
     obtain ⟨xs, rfl⟩ : ∃ xs, x = .agg xs := by cases x <;> first | (cases h; done) | exact ⟨_, rfl⟩
     obtain ⟨ys, rfl⟩ : ∃ ys, y = .agg ys := by cases y <;> first | (cases h; done) | exact ⟨_, rfl⟩
     change eqFs (eqE d) xs ys l = some b at h
     obtain ⟨vs, rfl, hl1, h1⟩ := hx.agg_inv
     obtain ⟨us, rfl, hl2, h2⟩ := hy.agg_inv
     have hf : P.fieldsOf t = fs := by simp [Program.fieldsOf, hu]
     rw [run_equalIn_agg w N t _ _ (by rw [hf]; exact hu) hsh, hf]
     exact eqFs_ok hl1 h1 hl2 h2 (fun t e ht => eqE_ok d n N t e (by omega) ht) fs.toList l b hl h
    ·cases ht
  ·cases ht
end
end
end Go.Ev
namespace Go.Ev
open Go
noncomputable section
section
variable {P : Program} {gl : List (Nat × List V)} {CO : Call → Prop} {β : List Nat}
theorem ok_eqE {op : BinOp} {neg : Bool} (hop : isEq op = some neg) {T T' : TypeId} {x y : Operand} {e : ETy} (hg : P.eqGuardType P.depth T = false) (het : etyOf P 5 T = some e) (hag : ∃ tk, tkT P T = some tk ∧ tk.agg = true) :
  ValOk P gl CO (.binOp op T x y T') (sEqE e neg (opG x) (opG y)) := fun o ho call hc env st K outs hok h => fun B w β tmps hi he => by
 obtain ⟨p, hdx, h⟩ := opG_den he h
 obtain ⟨q, hdy, h⟩ := opG_den he h
 cases hr : eqE 5 e p q with
 | none => rw [hr] at h; cases h
 | some r =>
  rw [hr] at h
  change retB (r != neg) (fun v => K v st) = some outs at h
  rw [retB_eq] at h
  have hK := h
  have hs := eqE_ok (P := P) (β := β) (w := w) 5 5 10000 T e (by omega) het _ _ _ _ _ hr hdx hdy
  have hagg : (∃ xs, p = .agg xs) ∧ ∃ ys, q = .agg ys := by
   obtain ⟨tk, ht, hta⟩ := hag
   obtain ⟨i, d, hi1, hu, htk⟩ := tkT_spec ht
   have hd : aggD d = true := by rw [← tkOf_agg htk (by cases tk <;> first | rfl | cases hta)]; exact hta
   unfold etyOf at het
   rw [hu] at het
   cases d <;> first | (cases hd; done) | skip
   all_goals simp only at het
   all_goals (repeat (split at het <;> first | (cases het; done) | skip))
   all_goals cases het
   all_goals (cases p <;> cases q <;> first | (cases hr; done) | exact ⟨⟨_, rfl⟩, ⟨_, rfl⟩⟩)
  obtain ⟨⟨xs, rfl⟩, ys, rfl⟩ := hagg
  obtain ⟨vs, hv1, _⟩ := hdx.agg_inv
  obtain ⟨us, hv2, _⟩ := hdy.agg_inv
  refine ⟨_, _, run_eq_ne hop ho hv1 hv2 (run_eqGuard_agg w op T x y vs.toArray us.toArray hg) (fun op ho => by rcases ho with rfl | rfl <;> rfl) (r := r) ?_, .bool .., .of hK⟩
  rw [hv1, hv2] at hs
  exact hs
theorem ok_not {T : TypeId} {x : Operand} : ValOk P gl CO (.unOp .not T x) (sNot (opG x)) := fun o ho call hc env st K outs hok h => fun B w β tmps hi he => by
 obtain ⟨p, hd, h⟩ := opG_den he h
 obtain ⟨b, hp, h2⟩ := vBool_some h; clear h; subst hp; have h := h2; clear h2
 rw [retB_eq] at h
 exact ⟨_, _, by simp only [execOp, ho, hd.bool_inv, Op.unary, Sem.run_bind, Sem.run_pure, Result.andThen_ok], .bool .., .of h⟩
theorem ok_neg {T : TypeId} {x : Operand} : ValOk P gl CO (.unOp .neg T x) (sNeg (opG x)) := fun o ho call hc env st K outs hok h => fun B w β tmps hi he => by
 obtain ⟨p, hd, h⟩ := opG_den he h
 obtain ⟨k, n, hp, h2⟩ := vInt_some h; clear h; subst hp; have h := h2; clear h2
 rw [slowW_eq] at h
 exact ⟨_, _, by simp only [execOp, ho, hd.int_inv, Op.unary, Op.intArith, Sem.run_bind, Sem.run_pure, Result.andThen_ok]; rfl, .int .., .of h⟩
theorem ok_xor {T : TypeId} {x : Operand} : ValOk P gl CO (.unOp .xor T x) (sXor (opG x)) := fun o ho call hc env st K outs hok h => fun B w β tmps hi he => by
 obtain ⟨p, hd, h⟩ := opG_den he h
 obtain ⟨k, n, hp, h2⟩ := vInt_some h; clear h; subst hp; have h := h2; clear h2
 rw [slowW_eq] at h
 exact ⟨_, _, by simp only [execOp, ho, hd.int_inv, Op.unary, Op.intBits, Sem.run_bind, Sem.run_pure, Result.andThen_ok], .int .., .of h⟩
theorem ok_conv {src dst : TypeId} {x : Operand} {k0 k : IntKind} (hs : tkT P src = some (.int k0)) (hd : tkT P dst = some (.int k)) : ValOk P gl CO (.convert src dst x) (sConv k (topN k) (sgnK k) (opG x)) := fun o ho call hc env st K outs hok h => fun B w β tmps hi he => by
 obtain ⟨i, d, hi1, hu, htk⟩ := tkT_spec hs
 obtain rfl := tkOf_int htk
 obtain ⟨i', d', hi1', hu', htk'⟩ := tkT_spec hd
 obtain rfl := tkOf_int htk'
 obtain ⟨p, hdp, h⟩ := opG_den he h
 obtain ⟨k1, n, hp, h2⟩ := vInt_some h; clear h; subst hp; have h := h2; clear h2
 rw [wrapT_eq] at h
 refine ⟨_, _, ?_, .int k _, .of h⟩
 simp only [execOp, ho, hdp.int_inv, Go.convert, Sem.run_bind, run_underlying hu, run_underlying hu', Result.andThen_ok, Conv.intToInt, Sem.run_pure]
theorem run_builtin {b : Builtin} {args : Array Operand} {ts : Array TypeId} {o : Oper} (ho : o.op = .call ⟨.builtin b, args, ts⟩) (ρ : Operand → Value) {w w' : World} {v : Value}
  (h : (Go.builtin b ts o.type (args.map fun | .const _ => true | _ => false) (args.map ρ)).run P w = .ok (.value v) w') : (execOp ρ o).run P w = .ok (.value v) w' := by
 simp only [execOp, ho, Go.resolve, Sem.run_bind, Sem.run_pure, Result.andThen_ok, invoke]
 exact h
theorem ok_lenC {x : Operand} {t : TypeId} {n e s : Nat} {args : Array Operand} {ts : Array TypeId} (ha : args.toList = [x]) (hts : ts.toList = [t]) (ht : tkT P t = some (.arr n e s)) : ValOk P gl CO (.call ⟨.builtin .len, args, ts⟩) (sLenC n) := fun o ho call hc env st K outs hok h => fun B w β tmps hi he => by
 obtain ⟨i, d, hi1, hu, htk⟩ := tkT_spec ht
 obtain ⟨rfl, _⟩ := tkOf_arr htk
 obtain rfl : args = #[x] := Array.ext' ha
 obtain rfl : ts = #[t] := Array.ext' hts
 change fNat n (fun n => K (.int .i64 (.ofNat n)) st) = some outs at h
 rw [fNat_eq] at h
 exact ⟨_, _, run_builtin ho _ (by simp only [Go.builtin, Sem.run_bind]; simp [Builtin.len_, run_underlying hu]; rfl), .int .., .of h⟩
theorem ok_lenS {x : Operand} {t : TypeId} {args : Array Operand} {ts : Array TypeId} (ha : args.toList = [x]) (hts : ts.toList = [t]) (ht : tkT P t = some .str) : ValOk P gl CO (.call ⟨.builtin .len, args, ts⟩) (sLenS (opG x)) := fun o ho call hc env st K outs hok h => fun B w β tmps hi he => by
 obtain ⟨i, d, hi1, hu, htk⟩ := tkT_spec ht
 obtain rfl := tkOf_str htk
 obtain rfl : args = #[x] := Array.ext' ha
 obtain rfl : ts = #[t] := Array.ext' hts
 obtain ⟨p, hd, h⟩ := opG_den he h
 obtain ⟨s, rfl⟩ : ∃ s, p = .str s := by cases p <;> first | (cases h; done) | exact ⟨_, rfl⟩
 exact ⟨_, _, run_builtin ho _ (by simp only [Go.builtin, Sem.run_bind]; simp [Builtin.len_, run_underlying hu, hd.str_inv]; rfl), .int .., .of h⟩
theorem ok_lenL {x : Operand} {t : TypeId} {e s b : Nat} {args : Array Operand} {ts : Array TypeId} (ha : args.toList = [x]) (hts : ts.toList = [t]) (ht : tkT P t = some (.sl e s b)) : ValOk P gl CO (.call ⟨.builtin .len, args, ts⟩) (sLenL (opG x)) := fun o ho call hc env st K outs hok h => fun B w β tmps hi he => by
 obtain ⟨i, d, hi1, hu, htk⟩ := tkT_spec ht
 obtain ⟨rfl, _⟩ := tkOf_sl htk
 obtain rfl : args = #[x] := Array.ext' ha
 obtain rfl : ts = #[t] := Array.ext' hts
 obtain ⟨p, hd, h⟩ := opG_den he h
 have key : ∀ a n c, (⟨tmps.toArray, []⟩ : Act).eval x = .slice a n c → (execOp (⟨tmps.toArray, []⟩ : Act).eval o).run P w = .ok (.value (.int .i64 (.ofNat n))) w := fun a n c hv =>
  run_builtin ho _ (by simp only [Go.builtin, Sem.run_bind]; simp [Builtin.len_, run_underlying hu, hv]; rfl)
 cases p <;> first | (cases h; done) | skip
 case nilsl =>
  generalize hv : (⟨tmps.toArray, []⟩ : Act).eval x = v at hd
  cases hd
  exact ⟨_, _, key _ _ _ hv, .int .., .of h⟩
 case esl =>
  generalize hv : (⟨tmps.toArray, []⟩ : Act).eval x = v at hd
  cases hd
  exact ⟨_, _, key _ _ _ hv, .int .., .of h⟩
 case sl k i off len cap =>
  obtain ⟨b, c, _, _, _, hv⟩ := hd.sl_inv
  exact ⟨_, _, key _ _ _ hv, .int .., .of h⟩
theorem ok_capL {x : Operand} {t : TypeId} {e s b : Nat} {args : Array Operand} {ts : Array TypeId} (ha : args.toList = [x]) (hts : ts.toList = [t]) (ht : tkT P t = some (.sl e s b)) : ValOk P gl CO (.call ⟨.builtin .cap, args, ts⟩) (sCapL (opG x)) := fun o ho call hc env st K outs hok h => fun B w β tmps hi he => by
 obtain ⟨i, d, hi1, hu, htk⟩ := tkT_spec ht
 obtain ⟨rfl, _⟩ := tkOf_sl htk
 obtain rfl : args = #[x] := Array.ext' ha
 obtain rfl : ts = #[t] := Array.ext' hts
 obtain ⟨p, hd, h⟩ := opG_den he h
 have key : ∀ a n c, (⟨tmps.toArray, []⟩ : Act).eval x = .slice a n c → (execOp (⟨tmps.toArray, []⟩ : Act).eval o).run P w = .ok (.value (.int .i64 (.ofNat c))) w := fun a n c hv =>
  run_builtin ho _ (by simp only [Go.builtin, Sem.run_bind]; simp [Builtin.cap_, run_underlying hu, hv]; rfl)
 cases p <;> first | (cases h; done) | skip
 case nilsl =>
  generalize hv : (⟨tmps.toArray, []⟩ : Act).eval x = v at hd
  cases hd
  exact ⟨_, _, key _ _ _ hv, .int .., .of h⟩
 case sl k i off len cap =>
  obtain ⟨b, c, _, hcap, _, hv⟩ := hd.sl_inv
  cases cap with
  | ghost ci => cases h
  | known n =>
   obtain rfl : c = n := hcap
   exact ⟨_, _, key _ _ _ hv, .int .., .of h⟩
theorem nat_lt {m n : Nat} {kd : IntKind} {v : Value} (hd : Den β (.int kd (.ofNat m)) v) (h : Nat.blt m n = true) : v = .int kd (.ofNat m) ∧ (0 ≤ (Int.ofNat m) ∧ (Int.ofNat m) < (n : Int)) := by
 refine ⟨hd.int_inv, ?_, ?_⟩
 ·exact Int.natCast_nonneg m
 ·have := blt_iff.1 h
  show (m : Int) < (n : Int)
  omega
theorem ok_idxAddrA {t : TypeId} {x i : Operand} {n e k : Nat} (ht : tkT P t = some (.arr n e k)) : ValOk P gl CO (.indexAddr t x i) (sIdxAddrA n k (opG x) (opG i)) := fun o ho call hc env st K outs hok h => fun B w β tmps hi he => by
 obtain ⟨i', d, hi1, hu, htk⟩ := tkT_spec ht
 obtain ⟨rfl, hse⟩ := tkOf_arr htk
 obtain ⟨q, hq, h⟩ := opG_den he h
 obtain ⟨kd, m, hp, h2⟩ := vNat_some h; clear h; subst hp; have h := h2; clear h2
 obtain ⟨hm, h⟩ := iff_some h
 obtain ⟨hqv, hq1⟩ := nat_lt hq hm
 obtain ⟨p, hd, h⟩ := opG_den he h
 have key : ∀ a0 : Addr, (⟨tmps.toArray, []⟩ : Act).eval x = .pointer (some a0) → (execOp (⟨tmps.toArray, []⟩ : Act).eval o).run P w = .ok (.value (.pointer (some (a0.add (m * k))))) w := by
  intro a0 h0
  simp only [execOp, ho, hqv, h0, Instr.indexAt, Instr.sureAddr, asIntOf, Sem.run_bind, Sem.run_pure, Result.andThen_ok, run_underlying hu, hq1, and_self, if_true, run_size hse, Int.toNat]
 cases p <;> first | (cases h; done) | skip
 case ptr j off => obtain ⟨b, hb, hv⟩ := hd.ptr_inv; exact ⟨_, _, key _ hv, by rw [addr_add]; exact .ptr _ _ _ hb, .of h⟩
 case gptr g off => exact ⟨_, _, key _ hd.gptr_inv, by rw [addr_add]; exact .gptr .., .of h⟩
theorem ok_idxAddrS {t : TypeId} {x i : Operand} {e k b : Nat} (ht : tkT P t = some (.sl e k b)) : ValOk P gl CO (.indexAddr t x i) (sIdxAddrS k (opG x) (opG i)) := fun o ho call hc env st K outs hok h => fun B w β tmps hi he => by
 obtain ⟨i', d, hi1, hu, htk⟩ := tkT_spec ht
 obtain ⟨rfl, ie, hie, hsz, _⟩ := tkOf_sl htk
 have hse : szOf P e = some k := by simp [szOf, hie, hsz]
 obtain ⟨p, hd, h⟩ := opG_den he h
 cases p <;> first | (cases h; done) | skip
 case sl k' j off len cap =>
  obtain ⟨b, c, hb, hcap, hlc, hv⟩ := hd.sl_inv
  obtain ⟨q, hq, h⟩ := opG_den he h
  obtain ⟨kd, m, hp, h2⟩ := vNat_some h; clear h; subst hp; have h := h2; clear h2
  obtain ⟨hk, h3⟩ := iff_some h
  have hkk := Nat.eq_of_beq_eq_true hk
  obtain ⟨hm, h4⟩ := iff_some h3
  obtain ⟨hqv, hq1⟩ := nat_lt hq hm
  rw [fNat_eq] at h4
  rw [← hkk] at hv
  refine ⟨_, .pointer (some ((⟨b, off * k, none⟩ : Addr).add (m * k))), ?_, by rw [addr_add]; exact .ptr _ _ _ hb, .of h4⟩
  simp only [execOp, ho, hqv, hv, Instr.indexAt, asIntOf, Sem.run_bind, Sem.run_pure, Result.andThen_ok, run_underlying hu]
  rw [if_pos hq1]
  simp only [Sem.run_bind, run_size hse, Result.andThen_ok, Sem.run_pure, Int.toNat]
theorem ok_idxA {t : TypeId} {x i : Operand} {n e k : Nat} {tk : TK} (ht : tkT P t = some (.arr n e k)) (hte : tkT P e = some tk) (hkn : tk.known = true) : ValOk P gl CO (.index t x i) (sIdxA n k tk.agg (opG x) (opG i)) := fun o ho call hc env st K outs hok h => fun B w β tmps hi he => by
 obtain ⟨i', d, hi1, hu, htk⟩ := tkT_spec ht
 obtain ⟨rfl, hse⟩ := tkOf_arr htk
 obtain ⟨ie, de, hie, hue, htke⟩ := tkT_spec hte
 obtain ⟨p, hd, h⟩ := opG_den he h
 obtain ⟨cs, hp, h2⟩ := vAgg_some h; clear h; subst hp; have h := h2; clear h2
 obtain ⟨q, hq, h⟩ := opG_den he h
 obtain ⟨kd, m, hp, h2⟩ := vNat_some h; clear h; subst hp; have h := h2; clear h2
 obtain ⟨hm, h⟩ := iff_some h
 obtain ⟨hqv, hq1⟩ := nat_lt hq hm
 obtain ⟨y, hy, h⟩ := partK_spec h
 rw [tkOf_agg htke hkn] at hy
 obtain ⟨vs, hv, hl, h1⟩ := hd.agg_inv
 obtain ⟨v, hr, hx⟩ := run_part (P := P) (w := w) hl h1 hue hse hy
 refine ⟨y, v, ?_, hx, .of h⟩
 simp only [execOp, ho, hqv, hv, Instr.index, asIntOf, Sem.run_bind, Sem.run_pure, Result.andThen_ok, run_underlying hu, hq1, and_self, if_true, run_size hse, Int.toNat]
 rw [hr]; rfl
theorem ok_idxS {t : TypeId} {x i : Operand} (ht : tkT P t = some .str) : ValOk P gl CO (.index t x i) (sIdxS (opG x) (opG i)) := fun o ho call hc env st K outs hok h => fun B w β tmps hi he => by
 obtain ⟨i', d, hi1, hu, htk⟩ := tkT_spec ht
 obtain rfl := tkOf_str htk
 obtain ⟨p, hd, h⟩ := opG_den he h
 obtain ⟨s, rfl⟩ : ∃ s, p = .str s := by cases p <;> first | (cases h; done) | exact ⟨_, rfl⟩
 obtain ⟨q, hq, h⟩ := opG_den he h
 obtain ⟨kd, m, hp, h2⟩ := vNat_some h; clear h; subst hp; have h := h2; clear h2
 rw [nthF_eq] at h
 cases hb : s[m]? with
 | none => rw [hb] at h; cases h
 | some b =>
  rw [hb] at h
  refine ⟨_, .int .u8 b.toNat, ?_, .int .u8 (Int.ofNat b.toNat), .of h⟩
  have hg : (⟨s.toArray⟩ : ByteArray)[m]? = some b := by
   have hlt : m < s.length := (List.getElem?_eq_some_iff.1 hb).1
   have hlt' : m < (⟨s.toArray⟩ : ByteArray).size := by simpa [ByteArray.size] using hlt
   rw [getElem?_pos (⟨s.toArray⟩ : ByteArray) m hlt']
   have : (⟨s.toArray⟩ : ByteArray)[m] = s[m] := rfl
   rw [this, ← hb, List.getElem?_eq_getElem hlt]
  have h0 : (0 : Int) ≤ Int.ofNat m := Int.natCast_nonneg m
  simp only [execOp, ho, hq.int_inv, hd.str_inv, Instr.index, asIntOf, Sem.run_bind, Sem.run_pure, Result.andThen_ok, run_underlying hu, h0, if_true, Int.toNat, hg]
end
end
end Go.Ev
