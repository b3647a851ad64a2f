/-
 What the operations do: each made once into a function of frame, heap and continuation.
-/
import GoSem.ClaimKeys
import Derived.Test.YtokclomhkggikaaGreatDoorVEvDefs
namespace Go.Ev
open Go
noncomputable section
abbrev KS := V → St → R
abbrev Call := FuncId → List V → St → KS → R
abbrev Sm := Call → Env → St → KS → R
structure Bx0 (α : Type) where
 v : α
def g0 {α : Type} (x : E8 α) (k : α → R) : R := @E8.casesOn α (fun _ => R) x fun a _ _ _ _ _ _ _ => k a
def g1 {α : Type} (x : E8 α) (k : α → R) : R := @E8.casesOn α (fun _ => R) x fun _ a _ _ _ _ _ _ => k a
def g2 {α : Type} (x : E8 α) (k : α → R) : R := @E8.casesOn α (fun _ => R) x fun _ _ a _ _ _ _ _ => k a
def g3 {α : Type} (x : E8 α) (k : α → R) : R := @E8.casesOn α (fun _ => R) x fun _ _ _ a _ _ _ _ => k a
def g4 {α : Type} (x : E8 α) (k : α → R) : R := @E8.casesOn α (fun _ => R) x fun _ _ _ _ a _ _ _ => k a
def g5 {α : Type} (x : E8 α) (k : α → R) : R := @E8.casesOn α (fun _ => R) x fun _ _ _ _ _ a _ _ => k a
def g6 {α : Type} (x : E8 α) (k : α → R) : R := @E8.casesOn α (fun _ => R) x fun _ _ _ _ _ _ a _ => k a
def g7 {α : Type} (x : E8 α) (k : α → R) : R := @E8.casesOn α (fun _ => R) x fun _ _ _ _ _ _ _ a => k a
def u0 {α : Type} (x : E8 α) (m : α → (α → R) → R) (k : E8 α → R) : R := @E8.casesOn α (fun _ => R) x fun a b c d e f g h => m a fun y => k ⟨y, b, c, d, e, f, g, h⟩
def u1 {α : Type} (x : E8 α) (m : α → (α → R) → R) (k : E8 α → R) : R := @E8.casesOn α (fun _ => R) x fun a b c d e f g h => m b fun y => k ⟨a, y, c, d, e, f, g, h⟩
def u2 {α : Type} (x : E8 α) (m : α → (α → R) → R) (k : E8 α → R) : R := @E8.casesOn α (fun _ => R) x fun a b c d e f g h => m c fun y => k ⟨a, b, y, d, e, f, g, h⟩
def u3 {α : Type} (x : E8 α) (m : α → (α → R) → R) (k : E8 α → R) : R := @E8.casesOn α (fun _ => R) x fun a b c d e f g h => m d fun y => k ⟨a, b, c, y, e, f, g, h⟩
def u4 {α : Type} (x : E8 α) (m : α → (α → R) → R) (k : E8 α → R) : R := @E8.casesOn α (fun _ => R) x fun a b c d e f g h => m e fun y => k ⟨a, b, c, d, y, f, g, h⟩
def u5 {α : Type} (x : E8 α) (m : α → (α → R) → R) (k : E8 α → R) : R := @E8.casesOn α (fun _ => R) x fun a b c d e f g h => m f fun y => k ⟨a, b, c, d, e, y, g, h⟩
def u6 {α : Type} (x : E8 α) (m : α → (α → R) → R) (k : E8 α → R) : R := @E8.casesOn α (fun _ => R) x fun a b c d e f g h => m g fun y => k ⟨a, b, c, d, e, f, y, h⟩
def u7 {α : Type} (x : E8 α) (m : α → (α → R) → R) (k : E8 α → R) : R := @E8.casesOn α (fun _ => R) x fun a b c d e f g h => m h fun y => k ⟨a, b, c, d, e, f, g, y⟩
def selG {α γ : Type} (i : Nat) (c : (E8 α → (α → R) → R) → γ) : γ := match i with
 | 0 => c g0 | 1 => c g1 | 2 => c g2 | 3 => c g3 | 4 => c g4 | 5 => c g5 | 6 => c g6 | _ => c g7
def selU {α γ : Type} (i : Nat) (c : (E8 α → (α → (α → R) → R) → (E8 α → R) → R) → γ) : γ := match i with
 | 0 => c u0 | 1 => c u1 | 2 => c u2 | 3 => c u3 | 4 => c u4 | 5 => c u5 | 6 => c u6 | _ => c u7
abbrev G := Env → (V → R) → R
abbrev U := Env → V → (Env → R) → R
def pathG (a : E8 (E8 (E8 V)) → (E8 (E8 V) → R) → R) (b : E8 (E8 V) → (E8 V → R) → R) (c : E8 V → (V → R) → R) : G := fun env k => a env fun r => b r fun s => c s k
def pathU (a : E8 (E8 (E8 V)) → (E8 (E8 V) → (E8 (E8 V) → R) → R) → (E8 (E8 (E8 V)) → R) → R) (b : E8 (E8 V) → (E8 V → (E8 V → R) → R) → (E8 (E8 V) → R) → R) (c : E8 V → (V → (V → R) → R) → (E8 V → R) → R) : U :=
 fun env v k => a env (fun r k => b r (fun s k => c s (fun _ k => k v) k) k) k
def failG : G := fun _ _ => none
def failU : U := fun _ _ _ => none
def getC (t : Nat) : Bx0 G := match Nat.blt t 512 with
 | true => selG (t / 64) fun a => selG (t / 8 % 8) fun b => selG (t % 8) fun c => ⟨pathG a b c⟩
 | false => ⟨failG⟩
def putC (t : Nat) : Bx0 U := match Nat.blt t 512 with
 | true => selU (t / 64) fun a => selU (t / 8 % 8) fun b => selU (t % 8) fun c => ⟨pathU a b c⟩
 | false => ⟨failU⟩
def constG (v : V) : G := fun _ k => k v
def constOk (v : Value) : Bool := match v with
 | .agg cs => cs.toList.all fun v => (cv v).one
 | _ => true
def opC (x : Operand) : Bx0 G := match x with
 | .tmp t => getC t
 | .const v => match constOk v with
  | true => fV (cvAgg v) fun v => ⟨constG v⟩
  | false => ⟨failG⟩
 | .global g => fNat g fun g => ⟨constG (.gptr g 0)⟩
 | .func f => fNat f fun f => ⟨constG (.fn f [] [])⟩
def withO {γ : Type} (x : Operand) (c : G → γ) : γ := match opC x with
 | ⟨g⟩ => c g
def withL {γ : Type} (l : List Operand) (c : List G → γ) : γ := mapK (fun x k => withO x k) l c
def withOpt {γ : Type} (x : Option Operand) (c : Option G → γ) : γ := match x with
 | none => c none
 | some x => withO x fun g => c (some g)
def noU : U := fun env _ k => k env
def withD {γ : Type} (d : Option Tmp) (c : U → γ) : γ := match d with
 | none => c noU
 | some d => match putC d with
  | ⟨u⟩ => c u
def opsK (l : List G) (env : Env) (k : List V → R) : R := mapK (fun (g : G) k => g env k) l k
def vBool (v : V) (k : Bool → R) : R := match v with
 | .bool b => k b
 | _ => none
def vInt (v : V) (k : IntKind → Int → R) : R := match v with
 | .int kd n => k kd n
 | _ => none
def vNat (v : V) (k : Nat → R) : R := match v with
 | .int _ (.ofNat n) => k n
 | _ => none
def vAgg (v : V) (k : List V → R) : R := match v with
 | .agg cs => k cs
 | _ => none
def iff (b : Bool) (x y : R) : R := @Bool.casesOn (fun _ => R) b y x
def cellsK (o : O) (k : List V → R) : R := match o with
 | .box cs => k cs
 | .vec _ _ cs => k cs
 | _ => none
def cellsW (o : O) (k : List V → (List V → O) → R) : R := match o with
 | .box cs => k cs .box
 | .vec kk ci cs => k cs (.vec kk ci)
 | _ => none
def partK (ag : Bool) (cs : List V) (off n : Nat) (k : V → R) : R :=
 iff ag (dropK cs off fun l => takeK l n fun l => iff (Nat.beq l.length n) (k (.agg l)) none) (nthF cs off k)
def topN : IntKind → Nat
 | .i8 => 127 | .i16 => 32767 | .i32 => 2147483647 | .i64 => 9223372036854775807 | .u8 => 255 | .u16 => 65535 | .u32 => 4294967295 | .u64 => 18446744073709551615
def sgnK : IntKind → Bool
 | .i8 | .i16 | .i32 | .i64 => true
 | _ => false
def isK (k k' : IntKind) : Bool := match k with
 | .i8 => @IntKind.casesOn (fun _ => Bool) k' true false false false false false false false
 | .i16 => @IntKind.casesOn (fun _ => Bool) k' false true false false false false false false
 | .i32 => @IntKind.casesOn (fun _ => Bool) k' false false true false false false false false
 | .i64 => @IntKind.casesOn (fun _ => Bool) k' false false false true false false false false
 | .u8 => @IntKind.casesOn (fun _ => Bool) k' false false false false true false false false
 | .u16 => @IntKind.casesOn (fun _ => Bool) k' false false false false false true false false
 | .u32 => @IntKind.casesOn (fun _ => Bool) k' false false false false false false true false
 | .u64 => @IntKind.casesOn (fun _ => Bool) k' false false false false false false false true
def slowW (k : IntKind) (n : Int) (K : V → R) : R := fInt (k.wrap n) fun n => K (.int k n)
def wrapT (k : IntKind) (top : Nat) (sg : Bool) (n : Int) (K : V → R) : R :=
 @Int.casesOn (fun _ => R) n (fun m => iff (Nat.ble m top) (K (.int k (.ofNat m))) (slowW k (.ofNat m) K)) (fun m => iff sg (iff (Nat.ble m top) (K (.int k (.negSucc m))) (slowW k (.negSucc m) K)) (slowW k (.negSucc m) K))
def addI (a b : Int) (K : Int → R) : R :=
 @Int.casesOn (fun _ => R) a (fun x => @Int.casesOn (fun _ => R) b (fun y => fNat (Nat.add x y) fun z => K (.ofNat z)) (fun y => fInt (Int.add (.ofNat x) (.negSucc y)) K)) (fun x => fInt (Int.add (.negSucc x) b) K)
def subI (a b : Int) (K : Int → R) : R :=
 @Int.casesOn (fun _ => R) a (fun x => @Int.casesOn (fun _ => R) b (fun y => iff (Nat.ble y x) (fNat (Nat.sub x y) fun z => K (.ofNat z)) (fNat (Nat.sub (Nat.sub y x) 1) fun z => K (.negSucc z))) (fun y => fInt (Int.sub (.ofNat x) (.negSucc y)) K)) (fun x => fInt (Int.sub (.negSucc x) b) K)
def mulI (a b : Int) (K : Int → R) : R :=
 @Int.casesOn (fun _ => R) a (fun x => @Int.casesOn (fun _ => R) b (fun y => fNat (Nat.mul x y) fun z => K (.ofNat z)) (fun y => fInt (Int.mul (.ofNat x) (.negSucc y)) K)) (fun x => fInt (Int.mul (.negSucc x) b) K)
def ltI (a b : Int) : Bool :=
 @Int.casesOn (fun _ => Bool) a (fun x => @Int.casesOn (fun _ => Bool) b (fun y => Nat.blt x y) fun _ => false) (fun x => @Int.casesOn (fun _ => Bool) b (fun _ => true) fun y => Nat.blt y x)
def eqI (a b : Int) : Bool :=
 @Int.casesOn (fun _ => Bool) a (fun x => @Int.casesOn (fun _ => Bool) b (fun y => Nat.beq x y) fun _ => false) (fun x => @Int.casesOn (fun _ => Bool) b (fun _ => false) fun y => Nat.beq x y)
def retB (b : Bool) (K : V → R) : R := fBool b fun b => K (.bool b)
abbrev IOp := IntKind → Nat → Bool → Int → Int → (V → R) → R
def iAdd : IOp := fun k top sg a b K => addI a b fun n => wrapT k top sg n K
def iSub : IOp := fun k top sg a b K => subI a b fun n => wrapT k top sg n K
def iMul : IOp := fun k top sg a b K => mulI a b fun n => wrapT k top sg n K
def iQuo : IOp := fun k _ _ a b K => iff (eqI b 0) none (slowW k (a.tdiv b) K)
def iRem : IOp := fun k _ _ a b K => iff (eqI b 0) none (fInt (a.tmod b) fun n => K (.int k n))
def iLss : IOp := fun _ _ _ a b K => retB (ltI a b) K
def iLeq : IOp := fun _ _ _ a b K => retB (!ltI b a) K
def iGtr : IOp := fun _ _ _ a b K => retB (ltI b a) K
def iGeq : IOp := fun _ _ _ a b K => retB (!ltI a b) K
def iEql : IOp := fun _ _ _ a b K => retB (eqI a b) K
def iNeq : IOp := fun _ _ _ a b K => retB (!eqI a b) K
def iAnd : IOp := fun k _ _ a b K => slowW k (BitVec.ofInt k.bits a &&& BitVec.ofInt k.bits b).toNat K
def iOr : IOp := fun k _ _ a b K => slowW k (BitVec.ofInt k.bits a ||| BitVec.ofInt k.bits b).toNat K
def iXor : IOp := fun k _ _ a b K => slowW k (BitVec.ofInt k.bits a ^^^ BitVec.ofInt k.bits b).toNat K
def iAndNot : IOp := fun k _ _ a b K => slowW k (BitVec.ofInt k.bits a &&& ~~~BitVec.ofInt k.bits b).toNat K
def iShl : IntKind → Int → Int → (V → R) → R := fun k a b K => iff (ltI b 0) none (slowW k (a * 2 ^ min b.toNat k.bits) K)
def iShr : IntKind → Int → Int → (V → R) → R := fun k a b K => iff (ltI b 0) none (fInt (a.fdiv (2 ^ min b.toNat k.bits)) fun n => K (.int k n))
def intOp : BinOp → Option IOp
 | .add => some iAdd | .sub => some iSub | .mul => some iMul | .quo => some iQuo | .rem => some iRem
 | .lss => some iLss | .leq => some iLeq | .gtr => some iGtr | .geq => some iGeq | .eql => some iEql | .neq => some iNeq
 | .and => some iAnd | .or => some iOr | .xor => some iXor | .andNot => some iAndNot
 | _ => none
def shOp : BinOp → Option (IntKind → Int → Int → (V → R) → R)
 | .shl => some iShl
 | .shr => some iShr
 | _ => none
def eqKd (a b : IntKind) : Bool := isK a b
def eqB : List UInt8 → List UInt8 → Bool
 | [], [] => true
 | x :: xs, y :: ys => Nat.beq x.toNat y.toNat && eqB xs ys
 | _, _ => false
def ltB : List UInt8 → List UInt8 → Bool
 | _, [] => false
 | [], _ :: _ => true
 | a :: x, b :: y => Nat.blt a.toNat b.toNat || (Nat.beq a.toNat b.toNat && ltB x y)
def strOp (op : BinOp) (a b : List UInt8) (K : V → R) : R :=
 match op with
 | .add => iff (Nat.ble (a.length + b.length) 1000000000) (appK a b fun l => K (.str l)) none
 | .eql => retB (eqB a b) K
 | .neq => retB (!eqB a b) K
 | .lss => retB (ltB a b) K
 | .leq => retB (ltB a b || eqB a b) K
 | .gtr => retB (!(ltB a b || eqB a b)) K
 | .geq => retB (!ltB a b) K
 | _ => none
def boolOp (op : BinOp) (a b : Bool) (K : V → R) : R :=
 match op with
 | .eql => retB (a == b) K
 | .neq => retB (a != b) K
 | _ => none
inductive NK where
 | p | s | m | f
def isNilV (k : NK) (v : V) : Option Bool := match k with
 | .p => match v with
  | .nilptr => some true
  | .ptr _ _ => some false
  | .gptr _ _ => some false
  | _ => none
 | .s => match v with
  | .nilsl => some true
  | .sl _ _ _ _ _ => some false
  | _ => none
 | .m => match v with
  | .nilmap => some true
  | .map _ => some false
  | _ => none
 | .f => match v with
  | .nilfn => some true
  | .fn _ _ _ => some false
  | _ => none
def eqNilV (k : NK) (x y : V) : Option Bool :=
 match isNilV k x with
 | some true => isNilV k y
 | some false => match isNilV k y with
  | some true => some false
  | _ => none
 | none => none
inductive CK where
 | b | i | s
inductive ETy where
 | cell (k : CK)
 | st (l : List (Nat × Nat × Bool × ETy))
 | arr (n k : Nat) (ag : Bool) (e : ETy)
def eqC (k : CK) (x y : V) : Option Bool := match k with
 | .b => match x, y with
  | .bool a, .bool b => some (a == b)
  | _, _ => none
 | .i => match x, y with
  | .int k a, .int k' b => if eqKd k k' then some (eqI a b) else none
  | _, _ => none
 | .s => match x, y with
  | .str a, .str b => some (eqB a b)
  | _, _ => none
def partV (ag : Bool) (cs : List V) (off n : Nat) : Option V := match ag with
 | true => match Nat.ble (off + n) cs.length with
  | true => some (.agg ((cs.drop off).take n))
  | false => none
 | false => cs[off]?
def eqFs (r : ETy → V → V → Option Bool) (xs ys : List V) : List (Nat × Nat × Bool × ETy) → Option Bool
 | [] => some true
 | f :: l => match partV f.2.2.1 xs f.1 f.2.1, partV f.2.2.1 ys f.1 f.2.1 with
  | some a, some b => match r f.2.2.2 a b with
   | some true => eqFs r xs ys l
   | some false => some false
   | none => none
  | _, _ => none
def eqAs (r : V → V → Option Bool) (ag : Bool) (k : Nat) (xs ys : List V) (i : Nat) : Nat → Option Bool
 | 0 => some true
 | n + 1 => match partV ag xs (i * k) k, partV ag ys (i * k) k with
  | some a, some b => match r a b with
   | some true => eqAs r ag k xs ys (i + 1) n
   | some false => some false
   | none => none
  | _, _ => none
def eqE : Nat → ETy → V → V → Option Bool
 | 0, _, _, _ => none
 | d + 1, e, x, y => match e with
  | .cell k => eqC k x y
  | .st l => match x, y with
   | .agg xs, .agg ys => eqFs (eqE d) xs ys l
   | _, _ => none
  | .arr n k ag e => match x, y with
   | .agg xs, .agg ys => eqAs (eqE d e) ag k xs ys 0 n
   | _, _ => none
def sMove (x : G) : Sm := fun _ env st K => x env fun v => K v st
def sPick (c a b : G) : Sm := fun _ env st K => c env fun v => vBool v fun t => iff t (a env fun v => K v st) (b env fun v => K v st)
def sNil (x : G) : Sm := fun _ env st K => x env fun v => match v with
 | .ptr i o => K (.ptr i o) st
 | .gptr g o => K (.gptr g o) st
 | .fn f a b => K (.fn f a b) st
 | _ => none
def sFAddr (off : Nat) (x : G) : Sm := fun _ env st K => x env fun v => match v with
 | .ptr i o => fNat (o + off) fun o => K (.ptr i o) st
 | .gptr g o => fNat (o + off) fun o => K (.gptr g o) st
 | _ => none
def sField (ag : Bool) (off size : Nat) (x : G) : Sm := fun _ env st K => x env fun v => vAgg v fun cs => partK ag cs off size fun v => K v st
def sLoad (gl : List (Nat × List V)) (ag : Bool) (size : Nat) (x : G) : Sm := fun _ env st K => x env fun v => match v with
 | .ptr i o => st.obj i fun ob => cellsK ob fun cs => partK ag cs o size fun v => K v st
 | .gptr g o => match gl.lookup g with
  | some cs => partK ag cs o size fun v => K v st
  | none => none
 | _ => none
def partsK (v : V) (k : List V → R) : R := match v with
 | .agg cs => k cs
 | .any | .tup _ => none
 | v => k [v]
def storeK (st : St) (i o : Nat) (xs : List V) (K : St → R) : R :=
 st.obj i fun ob => cellsW ob fun cs mk => overK cs o xs fun cs => match cs with
  | some cs => st.set i (mk cs) K
  | none => none
def sStore (size : Nat) (a x : G) : Sm := fun _ env st K => a env fun v => match v with
 | .ptr i o => x env fun v => partsK v fun xs => iff (Nat.beq xs.length size) (storeK st i o xs fun st => K .any st) none
 | _ => none
def sAlloc (z : List V) : Sm := fun _ _ st K => mapK fV1 z fun z => st.push (.box z) fun s => K (.ptr st.n 0) s
def sBox (x : G) : Sm := fun _ env st K => x env fun v => partsK v fun cs => st.push (.box cs) fun s => K (.ptr st.n 0) s
def fillK (env : Env) (z : List V) (parts : List (Nat × Nat × G)) (K : List V → R) : R :=
 match parts with
 | [] => K z
 | p :: rest => p.2.2 env fun v => partsK v fun xs => iff (Nat.beq xs.length p.2.1) (overK z p.1 xs fun z => match z with
  | some z => fillK env z rest K
  | none => none) none
def sBuild (z : List V) (parts : List (Nat × Nat × G)) : Sm := fun _ env st K => mapK fV1 z fun z => fillK env z parts fun cs => K (.agg cs) st
def sBSlice (k n : Nat) (z : List V) (parts : List (Nat × Nat × G)) : Sm := fun _ env st K =>
 mapK fV1 z fun z => replK z n [] fun z => fillK env z parts fun cs => st.push (.box cs) fun s => fNat k fun k => fNat n fun n => K (.sl k st.n 0 n (.known n)) s
def sExtract (x : G) (i : Nat) : Sm := fun _ env st K => x env fun v => match v with
 | .tup vs => nthF vs i fun v => K v st
 | _ => none
def sIface (t : TypeId) (x : G) : Sm := fun _ env st K => x env fun v => K (.iface t v) st
def sMkfn (f : FuncId) (first caps : List G) : Sm := fun _ env st K => opsK first env fun a => opsK caps env fun b => K (.fn f a b) st
def sLenC (n : Nat) : Sm := fun _ _ st K => fNat n fun n => K (.int .i64 (.ofNat n)) st
def sLenS (x : G) : Sm := fun _ env st K => x env fun v => match v with
 | .str s => fNat s.length fun n => K (.int .i64 (.ofNat n)) st
 | _ => none
def sLenL (x : G) : Sm := fun _ env st K => x env fun v => match v with
 | .sl _ _ _ n _ => K (.int .i64 (.ofNat n)) st
 | .nilsl | .esl => K (.int .i64 (.ofNat 0)) st
 | _ => none
def sCapL (x : G) : Sm := fun _ env st K => x env fun v => match v with
 | .nilsl => K (.int .i64 (.ofNat 0)) st
 | .sl _ _ _ _ (.known n) => K (.int .i64 (.ofNat n)) st
 | _ => none
def sBinI (p : IntKind → Bool) (f : Int → Int → (V → R) → R) (x y : G) : Sm := fun _ env st K => x env fun v => vInt v fun k a => iff (p k) (y env fun w => vInt w fun k' b => iff (p k') (f a b fun v => K v st) none) none
def sShI (f : IntKind → Int → Int → (V → R) → R) (x y : G) : Sm := fun _ env st K => x env fun v => vInt v fun k a => y env fun w => vInt w fun _ b => f k a b fun v => K v st
def sBinS (op : BinOp) (x y : G) : Sm := fun _ env st K => x env fun v => y env fun w => match v, w with
 | .str a, .str b => strOp op a b fun v => K v st
 | _, _ => none
def sBinB (op : BinOp) (x y : G) : Sm := fun _ env st K => x env fun v => y env fun w => match v, w with
 | .bool a, .bool b => boolOp op a b fun v => K v st
 | _, _ => none
def sEqNil (k : NK) (neg : Bool) (x y : G) : Sm := fun _ env st K => x env fun v => y env fun w => match eqNilV k v w with
 | some b => retB (b != neg) fun v => K v st
 | none => none
def sEqE (e : ETy) (neg : Bool) (x y : G) : Sm := fun _ env st K => x env fun v => y env fun w => match eqE 5 e v w with
 | some r => retB (r != neg) fun v => K v st
 | none => none
def sNot (x : G) : Sm := fun _ env st K => x env fun v => vBool v fun b => retB (!b) fun v => K v st
def sNeg (x : G) : Sm := fun _ env st K => x env fun v => vInt v fun k n => slowW k (Int.sub 0 n) fun v => K v st
def sXor (x : G) : Sm := fun _ env st K => x env fun v => vInt v fun k n => slowW k (BitVec.ofInt k.bits (if k.signed then -1 else k.max) ^^^ BitVec.ofInt k.bits n).toNat fun v => K v st
def sConv (k : IntKind) (top : Nat) (sg : Bool) (x : G) : Sm := fun _ env st K => x env fun v => vInt v fun _ n => wrapT k top sg n fun v => K v st
def sIdxAddrA (n k : Nat) (x i : G) : Sm := fun _ env st K => i env fun w => vNat w fun m => iff (Nat.blt m n) (x env fun v => match v with
 | .ptr j o => fNat (o + m * k) fun o => K (.ptr j o) st
 | .gptr g o => fNat (o + m * k) fun o => K (.gptr g o) st
 | _ => none) none
def sIdxAddrS (k : Nat) (x i : G) : Sm := fun _ env st K => x env fun v => match v with
 | .sl k' j off len _ => i env fun w => vNat w fun m => iff (Nat.beq k k') (iff (Nat.blt m len) (fNat (off * k + m * k) fun o => K (.ptr j o) st) none) none
 | _ => none
def sIdxA (n k : Nat) (ag : Bool) (x i : G) : Sm := fun _ env st K => x env fun v => vAgg v fun cs => i env fun w => vNat w fun m => iff (Nat.blt m n) (partK ag cs (m * k) k fun v => K v st) none
def sIdxS (x i : G) : Sm := fun _ env st K => x env fun v => match v with
 | .str s => i env fun w => vNat w fun m => nthF s m fun b => fNat b.toNat fun n => K (.int .u8 (.ofNat n)) st
 | _ => none
def bndK (x : Option G) (env : Env) (dflt top : Nat) (K : Nat → R) : R := match x with
 | none => K dflt
 | some x => x env fun v => vNat v fun n => iff (Nat.ble n top) (K n) none
def cutK (k i off l h m : Nat) (K : V → R) : R :=
 iff (Nat.beq m l) (K (.sl k i off 0 (.known 0))) (fNat (off + l) fun o => fNat (h - l) fun n => fNat (m - l) fun c => K (.sl k i o n (.known c)))
def cutG (k i off l h ci len : Nat) (K : V → R) : R :=
 iff (Nat.beq l 0) (K (.sl k i off h (.ghost ci))) (iff (Nat.blt l len) (fNat (off + l) fun o => fNat (h - l) fun n => K (.sl k i o n (.ghost ci))) (iff (Nat.beq h l) (K .esl) none))
def boundsK (env : Env) (lo hi mx : Option G) (len cap top : Nat) (K : Nat → Nat → Nat → R) : R :=
 bndK mx env cap top fun m => match mx, hi with
  | some _, none => none
  | _, _ => bndK hi env len m fun h => bndK lo env 0 h fun l => K l h m
def sSliceS (k : Nat) (x : G) (lo hi mx : Option G) : Sm := fun _ env st K => x env fun v => match v with
 | .nilsl => boundsK env lo hi mx 0 0 0 fun _ _ _ => K .nilsl st
 | .sl k' i off len cap => iff (Nat.beq k k') (match cap with
  | .known c => boundsK env lo hi mx len c c fun l h m => cutK k i off l h m fun v => K v st
  | .ghost ci => match mx with
   | none => bndK hi env len len fun h => bndK lo env 0 h fun l => cutG k i off l h ci len fun v => K v st
   | some mx => boundsK env lo hi (some mx) len len len fun l h m => cutK k i off l h m fun v => K v st) none
 | _ => none
def sSliceA (n k : Nat) (x : G) (lo hi : Option G) : Sm := fun _ env st K => x env fun v => match v with
 | .ptr i o => iff (Nat.beq (o % k) 0 && Nat.blt 0 k) (bndK hi env n n fun h => bndK lo env 0 h fun l => fNat (o / k) fun o => fNat k fun k => cutK k i o l h n fun v => K v st) none
 | _ => none
def sMkSlice (k bytes : Nat) (z : List V) (l c : G) : Sm := fun _ env st K => l env fun v => vNat v fun l => c env fun v => vNat v fun c =>
 iff (Nat.ble l c && (Nat.ble (bytes * c) 281474976710656 && Nat.ble c 1000000)) (mapK fV1 z fun z => replK z c [] fun cs => st.push (.box cs) fun s => fNat k fun k => K (.sl k st.n 0 l (.known c)) s) none
def elemsK (k : Nat) (st : St) (v : V) (K : Nat → List V → R) : R := match v with
 | .sl k' i off len _ => iff (Nat.beq k k') (st.obj i fun ob => cellsK ob fun cs => dropK cs (off * k) fun l => takeK l (len * k) fun l => iff (Nat.beq l.length (len * k)) (K len l) none) none
 | .nilsl | .esl => K 0 []
 | _ => none
def elemsStr (v : V) (K : Nat → List V → R) : R := match v with
 | .str s => mapK (fun (b : UInt8) k => fNat b.toNat fun n => k (V.int .u8 (.ofNat n))) s fun l => fNat s.length fun n => K n l
 | _ => none
def newVec (k n : Nat) (cs : List V) (st : St) (K : KS) : R :=
 st.push .dead fun s => s.push (.vec k st.n cs) fun s' => K (.sl k s.n 0 n (.ghost st.n)) s'
def appendK (k bytes : Nat) (x : V) (m : Nat) (new : List V) (st : St) (K : KS) : R :=
 iff (Nat.beq m 0) (match x with | .nilsl => K .nilsl st | .sl a b c d e => iff (Nat.ble (d * bytes) 140737488355328) (K (.sl a b c d e) st) none | _ => none) (match x with
 | .nilsl => iff (Nat.ble (m * bytes) 140737488355328) (newVec k m new st K) none
 | .sl k' i off len cap => iff (Nat.beq k k') (fNat (len + m) fun need => iff (Nat.ble (need * bytes) 140737488355328) (match cap with
  | .known c => iff (Nat.ble need c) (storeK st i ((off + len) * k) new fun s => K (.sl k i off need (.known c)) s) (elemsK k st x fun _ old => appK old new fun cs => newVec k need cs st K)
  | .ghost ci => st.obj i fun ob => match ob with
   | .vec k2 ci2 cs => iff (Nat.beq k2 k && Nat.beq ci ci2) (overK cs ((off + len) * k) new fun cs' => match cs' with
    | some cs => st.set i (.vec k ci cs) fun s => K (.sl k i off need (.ghost ci)) s
    | none => (iff (Nat.beq off 0) (takeK cs (len * k) fun old => iff (Nat.beq old.length (len * k)) (appK old new fun cs => st.set i .dead fun s => newVec k need cs s K) none) none)) none
   | _ => none) none) none
 | _ => none)
def sAppend (k bytes : Nat) (x y : G) : Sm := fun _ env st K => y env fun w => elemsK k st w fun m new => x env fun v => appendK k bytes v m new st K
def sAppendS (bytes : Nat) (x y : G) : Sm := fun _ env st K => y env fun w => elemsStr w fun m new => x env fun v => appendK 1 bytes v m new st K
def sAppendZ (k bytes : Nat) (z : List V) (x n : G) : Sm := fun _ env st K => n env fun w => vNat w fun m => iff (Nat.ble m 1000000) (mapK fV1 z fun z => replK z m [] fun new => x env fun v => appendK k bytes v m new st K) none
def sClear (k : Nat) (z : List V) (x : G) : Sm := fun _ env st K => x env fun v => match v with
 | .nilsl | .esl => K (.tup []) st
 | .sl k' i off len _ => iff (Nat.beq len 0) (K (.tup []) st) (iff (Nat.beq k k') (mapK fV1 z fun z => replK z len [] fun xs => storeK st i (off * k) xs fun s => K (.tup []) s) none)
 | _ => none
def mnmxK (isMax : Bool) (a : V) (l : List V) (K : V → R) : R := match l with
 | [] => K a
 | b :: l => vInt a fun k x => vInt b fun k' y => iff (eqKd k k') (mnmxK isMax (.int k (@Bool.casesOn (fun _ => Int) (@Bool.casesOn (fun _ => Bool) isMax (ltI y x) (ltI x y)) x y)) l K) none
def sMnMx (isMax : Bool) (args : List G) : Sm := fun _ env st K => opsK args env fun l => match l with
 | [] => none
 | a :: l => mnmxK isMax a l fun v => fV v fun v => K v st
abbrev Es := List (Nat × V × V)
def keyB (P : Program) (t : TypeId) : Option TypeId := match P.underlying t with
 | some (.map k _) => match P.underlying k with
  | some .string => some k
  | some (.int _) => some k
  | some .bool => some k
  | some (.array _ _) => match P.keyTypeAt 20 k && P.tiled 20 k with
   | true => some k
   | false => none
  | some (.struct _) => match P.keyTypeAt 20 k && P.tiled 20 k with
   | true => some k
   | false => none
  | _ => none
 | _ => none
def keyS (P : Program) (k : TypeId) (kv : V) : Bool := match keyV kv with
 | some u => (keyOf P k u).isSome
 | none => false
def keysS (P : Program) (k : TypeId) (es : Es) : Bool := es.all fun e => keyS P k e.2.1
def keyNe1 (a b : V) : Bool := match a, b with
 | .int _ a, .int _ b => !eqI a b
 | .str s, .str t => !eqB s t
 | .bool a, .bool b => !(a == b)
 | _, _ => false
def keyNes : List V → List V → Bool
 | a :: l, b :: m => keyNe1 a b || keyNes l m
 | _, _ => false
def keyNe (a b : V) : Bool := match a, b with
 | .agg cs, .agg ds => keyNes cs ds
 | a, b => keyNe1 a b
def keyEq1 (a b : V) : Bool := match a, b with
 | .int k a, .int k' b => eqKd k k' && eqI a b
 | .str s, .str t => eqB s t
 | .bool a, .bool b => a == b
 | _, _ => false
def keyEqs : List V → List V → Bool
 | [], [] => true
 | a :: l, b :: m => keyEq1 a b && keyEqs l m
 | _, _ => false
def keyEq (a b : V) : Bool := match a, b with
 | .agg cs, .agg ds => keyEqs cs ds
 | a, b => keyEq1 a b
def findI (kv : V) : Es → Option (Option Nat)
 | [] => some none
 | e :: es => match keyEq e.2.1 kv with
  | true => match es.all fun e => keyNe e.2.1 kv with
   | true => some (some 0)
   | false => none
  | false => match keyNe e.2.1 kv with
   | true => match findI kv es with
    | some (some j) => some (some (j + 1))
    | some none => some none
    | none => none
   | false => none
def setB (n : Nat) (v : V) : Es → Option Es
 | [] => none
 | (b, k', v') :: es => match Nat.beq b n with
  | true => some ((b, k', v) :: es)
  | false => match setB n v es with
   | some r => some ((b, k', v') :: r)
   | none => none
def findB (n : Nat) : Es → Option (V × V)
 | [] => none
 | (b, k, v) :: es => match Nat.beq b n with
  | true => some (k, v)
  | false => findB n es
def fE {β : Type} (e : Nat × V × V) (k : (Nat × V × V) → β) : β := fNat e.1 fun b => fV2 e.2.1 fun x => fV2 e.2.2 fun y => k (b, x, y)
def onMap (st : St) (m : V) (f : Nat → Es → Nat → R) : R := match m with
 | .map i => st.obj i fun ob => match ob with
  | .kmap es c => f i es c
  | _ => none
 | _ => none
def okRes (ok : Bool) (v : V) (f : Bool) (K : V → R) : R := iff ok (K (.tup [v, .bool f])) (K v)
def sMkMap : Sm := fun _ _ st K => st.push (.kmap [] 0) fun s => K (.map st.n) s
def atKey (P : Program) (k : TypeId) (st : St) (m kv : V) (f : Nat → Es → Nat → Option Nat → R) : R := onMap st m fun i es c => iff (keyS P k kv && keysS P k es) (match findI kv es with
 | some r => f i es c r
 | none => none) none
def sLookup (P : Program) (kt : TypeId) (z : V) (m k : G) (ok : Bool) : Sm := fun _ env st K => k env fun kv => m env fun mv => match mv with
 | .nilmap => iff (keyS P kt kv) (fV z fun z => okRes ok z false fun v => K v st) none
 | mv => atKey P kt st mv kv fun _ es _ r => match r with
  | some j => nthF es j fun e => okRes ok e.2.2 true fun v => K v st
  | none => fV z fun z => okRes ok z false fun v => K v st
def setE1 (st : St) (i c : Nat) (es : Es) (k : St → R) : R := mapK fE es fun es => fNat c fun c => st.set i (.kmap es c) k
def sMapUpd (P : Program) (kt : TypeId) (m k v : G) : Sm := fun _ env st K => k env fun kv => v env fun x => m env fun mv => atKey P kt st mv kv fun i es c r => match r with
 | some j => nthF es j fun e => setE1 st i c (es.set j (e.1, kv, x)) fun s => K .any s
 | none => setE1 st i (c + 1) (es ++ [(c, kv, x)]) fun s => K .any s
def sMapEntry (P : Program) (kt : TypeId) (z : V) (m k : G) : Sm := fun _ env st K => k env fun kv => m env fun mv => atKey P kt st mv kv fun i es c r => match r with
 | some j => nthF es j fun e => setE1 st i c (es.set j (e.1, kv, e.2.2)) fun s => K (.tup [e.2.2, .int .i64 (.ofNat e.1)]) s
 | none => fV z fun z => setE1 st i (c + 1) (es ++ [(c, kv, z)]) fun s => K (.tup [z, .int .i64 (.ofNat c)]) s
def sEntryStore (m s v : G) : Sm := fun _ env st K => s env fun sv => vNat sv fun b => v env fun x => m env fun mv => onMap st mv fun i es c => match setB b x es with
 | some es => setE1 st i c es fun s => K .any s
 | none => none
def sRange (m : G) : Sm := fun _ env st K => m env fun mv => onMap st mv fun i _ c => st.push (.iter (some i) c [] c) fun s => K (.ptr st.n 0) s
def many {γ : Type} (l : List γ) (k : γ → R) : R := match l with
 | [] => some []
 | x :: xs => match xs with
  | [] => k x
  | xs => match k x with
   | some a => match many xs k with
    | some b => some (a ++ b)
    | none => none
   | none => none
def leftE (seen : List Nat) (es : Es) : Es := es.filter fun e => !memN e.1 seen
def sNext (it : G) : Sm := fun _ env st K => it env fun v => match v with
 | .ptr r 0 => st.obj r fun ob => match ob with
  | .iter (some m) since seen last => st.obj m fun mb => match mb with
   | .kmap es c => iff (!seen.isEmpty && (!es.isEmpty && es.all fun e => Nat.ble last e.1)) none
     (mapK fE (leftE seen es) fun left => match (if left.any fun e => Nat.blt e.1 since then some [] else K (.tup [.bool false]) st) with
      | some a => match many left fun e => appK seen [e.1] fun seen => st.set r (.iter (some m) since seen c) fun s => K (.tup [.bool true, e.2.1, e.2.2]) s with
       | some b => some (a ++ b)
       | none => none
      | none => none)
   | _ => none
  | _ => none
 | _ => none
def sEntry (it : G) : Sm := fun _ env st K => it env fun v => match v with
 | .ptr r 0 => st.obj r fun ob => match ob with
  | .iter (some m) _ seen last => st.obj m fun mb => match mb, seen.getLast? with
   | .kmap es c, some b => iff (Nat.beq c last) (match findB b es with
    | some e => K (.tup [e.1, e.2]) st
    | none => none) none
   | _, _ => none
  | _ => none
 | _ => none
def sCall (f : G) (args : List G) : Sm := fun call env st K => f env fun v => match v with
 | .fn f first caps => opsK args env fun a => appK a caps fun a => appK first a fun a => call f a st K
 | _ => none
abbrev OS := Option Sm
def kindF {γ : Type} (k : IntKind) (c : (IntKind → Bool) → Nat → Bool → γ) : γ := match k with
 | .i8 => c (isK .i8) 127 true | .i16 => c (isK .i16) 32767 true | .i32 => c (isK .i32) 2147483647 true | .i64 => c (isK .i64) 9223372036854775807 true
 | .u8 => c (isK .u8) 255 false | .u16 => c (isK .u16) 65535 false | .u32 => c (isK .u32) 4294967295 false | .u64 => c (isK .u64) 18446744073709551615 false
def partsC {γ : Type} (place : Nat → Option (Nat × Nat)) (l : List (Nat × Operand)) (c : Option (List (Nat × Nat × G)) → γ) : γ := match l with
 | [] => c (some [])
 | p :: l => match place p.1 with
  | some q => fNat q.1 fun o => fNat q.2 fun s => withO p.2 fun g => partsC place l fun r => match r with
   | some r => c (some ((o, s, g) :: r))
   | none => c none
  | none => c none
def etyF (P : Program) (r : TypeId → Option ETy) : List Field → Option (List (Nat × Nat × Bool × ETy))
 | [] => some []
 | f :: fs => match f.name != "_" with
  | true => match fldOf P f with
   | some q => match r f.type with
    | some e => match etyF P r fs with
     | some l => some ((q.1, q.2.1, q.2.2.1, e) :: l)
     | none => none
    | none => none
   | none => none
  | false => none
def etyOf (P : Program) : Nat → TypeId → Option ETy
 | 0, _ => none
 | n + 1, t => match P.underlying t with
  | some .bool => some (.cell .b)
  | some (.int _) => some (.cell .i)
  | some .string => some (.cell .s)
  | some (.array m e) => match etyOf P n e with
   | some r => match szOf P e with
    | some k => match P.underlying e with
     | some d => some (.arr m k (aggD d) r)
     | none => none
    | none => none
   | none => none
  | some (.struct fs) => match P.stoodInHeld t with
   | true => none
   | false => match etyF P (etyOf P n) fs.toList with
    | some l => some (.st l)
    | none => none
  | _ => none
def isEq : BinOp → Option Bool
 | .eql => some false
 | .neq => some true
 | _ => none
def compFl (P : Program) (op : BinOp) (T : TypeId) (x y : Operand) : OS := match isEq op with
 | some b => match P.eqGuardType P.depth T with
  | true => none
  | false => match etyOf P 5 T with
   | some e => withO x fun x => withO y fun y => some (sEqE e b x y)
   | none => none
 | none => none
def compNil (k : NK) (op : BinOp) (x y : Operand) : OS := match isEq op with
 | some b => withO x fun x => withO y fun y => some (sEqNil k b x y)
 | none => none
def compBin (P : Program) (op : BinOp) (T : TypeId) (x y : Operand) : OS :=
 match tkT P T with
 | some (.int k) => match intOp op with
  | some f => fKind k fun k => kindF k fun p top sg => withO x fun x => withO y fun y => some (sBinI p (f k top sg) x y)
  | none => match shOp op with
   | some f => withO x fun x => withO y fun y => some (sShI f x y)
   | none => none
 | some .str => withO x fun x => withO y fun y => some (sBinS op x y)
 | some .bool => withO x fun x => withO y fun y => some (sBinB op x y)
 | some (.strct _) => compFl P op T x y
 | some (.arr _ _ _) => compFl P op T x y
 | some (.ptr _) => compNil .p op x y
 | some (.sl _ _ _) => compNil .s op x y
 | some (.map _ _) => compNil .m op x y
 | some .fn => compNil .f op x y
 | _ => none
def allOne (z : List V) : Bool := z.all V.one
def zcell {γ : Type} (P : Program) (e : TypeId) (c : Option V → γ) : γ :=
 match P.info? e with
 | some i => match i.zero with
  | some z => match constOk z with
   | true => fV (cvAgg z) fun z => c (some z)
   | false => c none
  | none => c none
 | none => c none
def zeroE {γ : Type} (P : Program) (e k : Nat) (c : Option (List V) → γ) : γ := match zeroT P e with
 | some z => match Nat.beq z.length k && allOne z with
  | true => mapK fV1 z fun z => c (some z)
  | false => c none
 | none => c none
def compB (P : Program) (b : Builtin) (args : List Operand) (ts : List TypeId) : OS :=
 match b, args, ts with
 | .len, [x], [t] => match tkT P t with
  | some (.arr n _ _) => fNat n fun n => some (sLenC n)
  | some .str => withO x fun x => some (sLenS x)
  | some (.sl _ _ _) => withO x fun x => some (sLenL x)
  | _ => none
 | .cap, [x], [t] => match tkT P t with
  | some (.sl _ _ _) => withO x fun x => some (sCapL x)
  | _ => none
 | .append, [x, y], [t, u] => match tkT P t with
  | some (.sl e k b) => match Nat.blt 0 b && Nat.blt 0 k with
   | true => fNat k fun k => fNat b fun b => zeroE P e k fun z => match z with
    | some z => withO x fun x => withO y fun y => match tkT P u with
     | some (.sl _ _ _) => some (sAppend k b x y)
     | some .str => match Nat.beq k 1 with
      | true => some (sAppendS b x y)
      | false => none
     | some (.int _) => some (sAppendZ k b z x y)
     | _ => none
    | none => none
   | false => none
  | _ => none
 | .clear, [x], [t] => match tkT P t with
  | some (.sl e k _) => match Nat.blt 0 k with
   | true => fNat k fun k => zeroE P e k fun z => match z with
    | some z => withO x fun x => some (sClear k z x)
    | none => none
   | false => none
  | _ => none
 | .min, xs, _ => withL xs fun xs => some (sMnMx false xs)
 | .max, xs, _ => withL xs fun xs => some (sMnMx true xs)
 | _, _, _ => none
def compBuild (z : Option (List V)) (parts : Option (List (Nat × Nat × G))) : OS := match z, parts with
 | some z, some ps => match allOne z with
  | true => mapK fV1 z fun z => some (sBuild z ps)
  | false => none
 | _, _ => none
def compOp (P : Program) (gl : List (Nat × List V)) (o : Op) : OS :=
 match o with
 | .move x => withO x fun x => some (sMove x)
 | .assign x => withO x fun x => some (sMove x)
 | .pick c a b => withO c fun c => withO a fun a => withO b fun b => some (sPick c a b)
 | .nilCheck x => withO x fun x => some (sNil x)
 | .fieldAddr t x f => match tkT P t with
  | some (.strct l) => match l[f]? with
   | some q => match Nat.beq q.2.1 0 with
    | true => none
    | false => fNat q.1 fun o => withO x fun x => some (sFAddr o x)
   | none => none
  | _ => none
 | .field t x f => match tkT P t with
  | some (.strct l) => match l[f]? with
   | some q => fNat q.1 fun o => fNat q.2.1 fun s => fBool q.2.2.1 fun ag => withO x fun x => some (sField ag o s x)
   | none => none
  | _ => none
 | .load t x => match tyOf P t with
  | some ti => match ti.tk.known with
   | true => fBool ti.tk.agg fun ag => fNat ti.size fun s => withO x fun x => some (sLoad gl ag s x)
   | false => none
  | none => none
 | .store t a x => match tyOf P t with
  | some ti => fNat ti.size fun s => withO a fun a => withO x fun x => some (sStore s a x)
  | none => none
 | .alloc t => match zeroT P t with
  | some z => match allOne z with
   | true => mapK fV1 z fun z => some (sAlloc z)
   | false => none
  | none => none
 | .box _ x => withO x fun x => some (sBox x)
 | .build t parts => match tyOf P t with
  | some ti => match ti.tk with
   | .strct l => partsC (fun i => (l[i]?).map fun x => (x.1, x.2.1)) parts.toList fun ps => compBuild ti.zero ps
   | .arr _ _ s => partsC (fun i => some (i * s, s)) parts.toList fun ps => compBuild ti.zero ps
   | _ => none
  | none => none
 | .buildSlice t n parts => match tkT P t with
  | some (.sl e k _) => fNat k fun k => fNat n fun n => zeroE P e k fun z => match z with
   | some z => match Nat.ble (n * k) 16777216 && Nat.blt 0 k with
    | true => partsC (fun i => some (i * k, k)) parts.toList fun ps => match ps with
     | some ps => some (sBSlice k n z ps)
     | none => none
    | false => none
   | none => none
  | _ => none
 | .extract x i => withO x fun x => fNat i fun i => some (sExtract x i)
 | .makeInterface t x => match tyOf P t with
  | some ti => match ti.tk.conc with
   | true => fNat t fun t => withO x fun x => some (sIface t x)
   | false => none
  | none => none
 | .makeFunc f first caps => match f with
  | .func f => fNat f fun f => withL first.toList fun a => withL caps.toList fun b => some (sMkfn f a b)
  | _ => none
 | .binOp op T x y _ => compBin P op T x y
 | .unOp op _ x => match op with
  | .not => withO x fun x => some (sNot x)
  | .neg => withO x fun x => some (sNeg x)
  | .xor => withO x fun x => some (sXor x)
  | _ => none
 | .convert src dst x => match tkT P src with
  | some (.int _) => match tkT P dst with
   | some (.int k) => fKind k fun k => kindF k fun _ top sg => withO x fun x => some (sConv k top sg x)
   | _ => none
  | _ => none
 | .indexAddr t x i => match tkT P t with
  | some (.arr n _ k) => fNat n fun n => fNat k fun k => withO x fun x => withO i fun i => some (sIdxAddrA n k x i)
  | some (.sl _ k _) => fNat k fun k => withO x fun x => withO i fun i => some (sIdxAddrS k x i)
  | _ => none
 | .index t x i => match tkT P t with
  | some (.arr n e k) => match tkT P e with
   | some tk => match tk.known with
    | true => fNat n fun n => fNat k fun k => fBool tk.agg fun ag => withO x fun x => withO i fun i => some (sIdxA n k ag x i)
    | false => none
   | none => none
  | some .str => withO x fun x => withO i fun i => some (sIdxS x i)
  | _ => none
 | .slice t x lo hi mx => match tkT P t with
  | some (.sl _ k _) => fNat k fun k => withO x fun x => withOpt lo fun lo => withOpt hi fun hi => withOpt mx fun mx => some (sSliceS k x lo hi mx)
  | some (.arr n _ k) => match mx with
   | none => fNat n fun n => fNat k fun k => withO x fun x => withOpt lo fun lo => withOpt hi fun hi => some (sSliceA n k x lo hi)
   | some _ => none
  | _ => none
 | .makeSlice t l c => match tkT P t with
  | some (.sl e k b) => match Nat.blt 0 k with
   | true => fNat k fun k => fNat b fun b => zeroE P e k fun z => match z with
    | some z => withO l fun l => withO c fun c => some (sMkSlice k b z l c)
    | none => none
   | false => none
  | _ => none
 | .makeMap _ r => match r with
  | none => some sMkMap
  | some _ => none
 | .lookup t m k ok => match keyB P t with
  | some kt => match tkT P t with
   | some (.map _ e) => zcell P e fun z => match z with
    | some z => fBool ok fun ok => withO m fun m => withO k fun k => some (sLookup P kt z m k ok)
    | none => none
   | _ => none
  | none => none
 | .mapUpdate t m k v => match keyB P t with
  | some kt => withO m fun m => withO k fun k => withO v fun v => some (sMapUpd P kt m k v)
  | none => none
 | .insert t m k v => match keyB P t with
  | some kt => withO m fun m => withO k fun k => withO v fun v => some (sMapUpd P kt m k v)
  | none => none
 | .mapEntry t m k => match keyB P t with
  | some kt => match tkT P t with
   | some (.map _ e) => zcell P e fun z => match z with
    | some z => withO m fun m => withO k fun k => some (sMapEntry P kt z m k)
    | none => none
   | _ => none
  | none => none
 | .entryStore _ m s v => withO m fun m => withO s fun s => withO v fun v => some (sEntryStore m s v)
 | .range t m => match tkT P t with
  | some (.map _ _) => withO m fun m => some (sRange m)
  | _ => none
 | .next it isStr => match isStr with
  | true => none
  | false => withO it fun it => some (sNext it)
 | .entry it => withO it fun it => some (sEntry it)
 | .call c => match c.callee with
  | .value f => withO f fun f => withL c.args.toList fun a => some (sCall f a)
  | .invoke _ _ => none
  | .builtin b => compB P b c.args.toList c.argTypes.toList
 | _ => none
end
end Go.Ev
