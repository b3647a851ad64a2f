/-
 Rules that need no word: contracts found as instances, rows and strings read where omega sees the bound, tests split by what they say.
-/
import Derived.KernelRfl
import Derived.Test.YtokclomhkggikaaGreatDoorJPwShort
namespace Go.Pw
open Go
class ConF (P : Program) (Gl : Glob) (f : FuncId) (args : List PV) (pre : outParam Prop) (x : outParam PV) : Prop where
 ent : Enters P f
 fn : pre → PFun P Gl f args fun r => r = x
section
variable {P : Program} {Gl : Glob} {B : Base} {tys : List TI} {env : List PV} {st : List PObj} {ops : Array Oper} {rest : List Oper} {o : Oper} {Q : Post}
theorem LeBy.refl {R : PV → PV → Prop} (h : ∀ x, R x x) : ∀ (l : List PV), LeBy R l l
 | [] => trivial
 | x :: l => ⟨h x, LeBy.refl h l⟩
theorem Le.refl (l : List PV) : Le l l := LeBy.refl (fun _ => .inr (.inl rfl)) l
def lendP (st : List PObj) : Nat → PV → PV
 | 0, p => p
 | n + 1, p => match p with
  | .msl k i off m cap => match st[i]? with
   | some (.arr _ xs _) => .sl xs
   | _ => .msl k i off m cap
  | .agg cs => .agg (cs.map (lendP st n))
  | p => p
def AllP (R : PV → Prop) : List PV → Prop
 | [] => True
 | x :: l => R x ∧ AllP R l
def lendOk (st : List PObj) : Nat → PV → Prop
 | 0, _ => True
 | n + 1, p => match p with
  | .msl _ i off m cap => match st[i]? with
   | some (.arr _ xs c) => off = 0 ∧ c = cap ∧ m = xs.length
   | _ => True
  | .agg cs => AllP (lendOk st n) cs
  | _ => True
theorem AllP.lend {st : List PObj} {n : Nat} (ih : ∀ p, lendOk st n p → FLe (fun _ => true) st n p (lendP st n p)) : ∀ (l : List PV), AllP (lendOk st n) l → LeBy (FLe (fun _ => true) st n) l (l.map (lendP st n))
 | [], _ => trivial
 | x :: l, ⟨h1, h2⟩ => ⟨ih x h1, AllP.lend ih l h2⟩
theorem lend_le {st : List PObj} : ∀ (n : Nat) (p : PV), lendOk st n p → FLe (fun _ => true) st n p (lendP st n p)
 | 0, _, _ => rfl
 | n + 1, p, h => by
  cases p <;> first | exact .inr (.inl rfl) | skip
  ·rename_i k i off m cap
   simp only [lendOk] at h
   simp only [lendP]
   cases hs : st[i]? with
   | none => exact .inr (.inl rfl)
   | some o =>
    cases o with
    | arr k' xs c =>
     rw [hs] at h
     obtain ⟨rfl, rfl, rfl⟩ := h
     exact .inr (.inr (.inr (.inl ⟨_, _, _, _, _, _, rfl, rfl, hs, rfl, rfl⟩)))
    | _ => exact .inr (.inl rfl)
  ·rename_i cs
   exact .inr (.inr (.inr (.inr (.inl ⟨cs, _, rfl, rfl, AllP.lend (lend_le n) cs h⟩))))
def kPure : Op → Bool
 | .move _ | .assign _ | .pick _ _ _ | .nilCheck _ | .unOp _ _ _ | .fieldAddr _ _ _ | .field _ _ _ | .load _ _ | .extract _ _ | .makeInterface _ _ | .makeFunc _ _ _ | .build _ _ => true
 | _ => false
def kBin : Op → Bool
 | .binOp _ _ _ _ _ => true
 | _ => false
def kAddr : Op → Bool
 | .indexAddr _ _ _ | .index _ _ _ => true
 | _ => false
def kCall : Op → Bool
 | .call c => match c.callee with
  | .value _ => true
  | _ => false
 | _ => false
def kLen : Op → Bool
 | .call c => match c.callee with
  | .builtin .len => true
  | _ => false
 | _ => false
def kConv : Op → Bool
 | .convert _ _ _ => true
 | _ => false
def kSlice : Op → Bool
 | .slice _ _ _ _ _ => true
 | _ => false
def kBox : Op → Bool
 | .box _ _ | .alloc _ => true
 | _ => false
def kStore : Op → Bool
 | .store _ _ _ => true
 | _ => false
def kLit : Op → Bool
 | .buildSlice _ _ _ => true
 | _ => false
theorem gK (k : Op → Bool) (_h : k o.op = true) (r : PWL P Gl B ops (o :: rest) env st Q) : PWL P Gl B ops (o :: rest) env st Q := r
def noGuard (o : Oper) : Bool := match o.guard with
 | none => true
 | some _ => false
theorem gG0 (_h : noGuard o = true) (r : PWL P Gl B ops (o :: rest) env st Q) : PWL P Gl B ops (o :: rest) env st Q := r
theorem gG1 (_h : noGuard o = false) (r : PWL P Gl B ops (o :: rest) env st Q) : PWL P Gl B ops (o :: rest) env st Q := r
def goff (ops : Array Oper) (o : Oper) (env : List PV) : Option (List PV) :=
 match o.guard with
 | some (j, want) => match yieldE ops env j with
  | some b => match b == want with
   | true => none
   | false => match o.dst with
    | some d => forceL (env.set d (.tup [])) some
    | none => some env
  | none => match noYield ops env j with
   | true => match o.dst with
    | some d => forceL (env.set d (.tup [])) some
    | none => some env
   | false => none
 | none => none
theorem pl_goff {env' : List PV} (h : goff ops o env = some env') (hr : PWL P Gl B ops rest env' st Q) : PWL P Gl B ops (o :: rest) env st Q := by
 unfold goff at h
 split at h
 ·rename_i j want hg
  split at h
  ·rename_i b hy
   split at h
   ·cases h
   ·rename_i hb
    refine pl_off hg hy hb ?_
    unfold putE
    split at h <;> (try simp only [forceL_eq] at h) <;> cases h <;> simp_all
  ·rename_i hy
   split at h
   ·rename_i hn
    refine pl_offN hg hn ?_
    unfold putE
    split at h <;> (try simp only [forceL_eq] at h) <;> cases h <;> simp_all
   ·cases h
 ·cases h
theorem op_conG {K : PV → List PObj → Prop} {fop : Operand} {args : Array Operand} {ats : Array TypeId} {f : FuncId} {caps full' : List PV} {pre : Prop} {x : PV}
  (ho : o.op = .call ⟨.value fop, args, ats⟩) (hf : pe env fop = .fn f caps) (hn : (forceV (args.toList.map (pe env) ++ caps) fun l => some l) = some full')
  (hc : ConF P Gl f full' pre x) (hp : pre) (hr : full'.all (PV.refs (fun _ => false) 5) = true) (hx : x.refs (fun _ => false) 5 = true) (hK : K x st) : OpP P Gl B o env st K := by
 rw [forceV_eq] at hn
 cases hn
 refine op_fun (hc.fn hp) ho hf hc.ent (Le.refl _) hr ?_
 rintro r rfl
 exact ⟨hx, hK⟩
theorem op_conF {K : PV → List PObj → Prop} {fop : Operand} {args : Array Operand} {ats : Array TypeId} {f : FuncId} {full full' cargs : List PV} {pre : Prop} {x : PV}
  (ho : o.op = .call ⟨.value fop, args, ats⟩) (hf : calleeP (pe env fop) (args.toList.map (pe env)) = some (f, full)) (hn : (forceV full fun l => some l) = some full') (hl : (forceV (full'.map (lendP st 3)) fun l => some l) = some cargs)
  (hok : AllP (lendOk st 3) full') (hc : ConF P Gl f cargs pre x) (hp : pre) (hr : cargs.all (PV.refs (fun _ => false) 5) = true) (hx : x.plain 3 = true) (hK : K x st) : OpP P Gl B o env st K := by
 rw [forceV_eq] at hn hl
 cases hn
 cases hl
 refine op_lend0 (hc.fn hp) ho hf hc.ent (AllP.lend (lend_le 3) _ hok) hr ?_
 rintro r rfl
 exact ⟨hx, hK⟩
theorem v_lenM {α : Type} {e : α → PV} {L : List α} {x : Operand} {T : TypeId} (hT : Tys P tys) (_ho : o.op = .call ⟨.builtin .len, #[x], #[T]⟩) (h : ∀ st, pureOp tys st env o.op = some (.int .i64 ((L.map e).length : Nat))) : OpV P Gl B o env (.int .i64 (L.length : Nat)) := fun st A w β tmps hi he => by
 have := h st
 rw [List.length_map] at this
 exact pureOp_sound hT this hi he
theorem v_nth {α : Type} [Inhabited α] {e : α → PV} {L : List α} {t : TypeId} {x y : Operand} {k : IntKind} {i : Int} (n : Nat) (hT : Tys P tys) (ho : o.op = .indexAddr t x y) {el s b z1 z2 : Nat} {z3 : Option (List PV)} (ht : tys[t]? = some ⟨.sl el s b, z1, z2, z3⟩)
  (hx : pe env x = .sl (L.map e)) (hy : pe env y = .int k i) (hn : i.toNat = n) (h0 : 0 ≤ i) (h1 : n < L.length) (hs : ∀ a, (e a).cells.length = s) : OpV P Gl B o env (.vptr (e (L.getD n default)).cells) := by
 refine v_index (p := e (L.getD n default)) hT ho ht hx hy h0 ?_ (hs _)
 rw [hn, List.getElem?_map, List.getD, List.getElem?_eq_getElem h1]; rfl
theorem v_nthS {L : List (List UInt8)} {t : TypeId} {x y : Operand} {k : IntKind} {i : Int} (n : Nat) (hT : Tys P tys) (ho : o.op = .indexAddr t x y) {el s b z1 z2 : Nat} {z3 : Option (List PV)} (ht : tys[t]? = some ⟨.sl el s b, z1, z2, z3⟩)
  (hx : pe env x = .sl (L.map .str)) (hy : pe env y = .int k i) (hn : i.toNat = n) (h0 : 0 ≤ i) (h1 : n < L.length) (hs : 1 = s) : OpV P Gl B o env (.vptr [.str (L.getD n [])]) :=
 v_nth (e := .str) n hT ho ht hx hy hn h0 h1 (fun _ => hs)
theorem v_byte {t : TypeId} {x y : Operand} {s : List UInt8} {k : IntKind} {i : Int} (n : Nat) (hT : Tys P tys) (ho : o.op = .index t x y) {z1 z2 : Nat} {z3 : Option (List PV)} (ht : tys[t]? = some ⟨.str, z1, z2, z3⟩)
  (hx : pe env x = .str s) (hy : pe env y = .int k i) (hn : i.toNat = n) (h0 : 0 ≤ i) (h1 : n < s.length) : OpV P Gl B o env (.int .u8 (s.getD n 0).toNat) :=
 v_indexs hT ho ht hx hy h0 (by rw [hn, List.getD, List.getElem?_eq_getElem h1]; rfl)
theorem v_takeS {t : TypeId} {x : Operand} {hi : Option Operand} {s : List UInt8} {h : Int} (n : Nat) (hT : Tys P tys) (ho : o.op = .slice t x none hi none) {z1 z2 : Nat} {z3 : Option (List PV)} (ht : tys[t]? = some ⟨.str, z1, z2, z3⟩)
  (hx : pe env x = .str s) (hh : bnd env s.length hi = some h) (hn : h.toNat = n) (h0 : 0 ≤ h) (h2 : h ≤ s.length) : OpV P Gl B o env (.str (s.take n)) := by
 have := v_substr (P := P) (Gl := Gl) (B := B) (l := 0) hT ho ht hx rfl hh (Int.le_refl _) h0 h2
 rw [hn] at this; exact this
theorem v_dropS {t : TypeId} {x : Operand} {lo : Option Operand} {s : List UInt8} {l : Int} (n : Nat) (hT : Tys P tys) (ho : o.op = .slice t x lo none none) {z1 z2 : Nat} {z3 : Option (List PV)} (ht : tys[t]? = some ⟨.str, z1, z2, z3⟩)
  (hx : pe env x = .str s) (hl : bnd env 0 lo = some l) (hn : l.toNat = n) (h0 : 0 ≤ l) (h2 : l ≤ s.length) : OpV P Gl B o env (.str (s.drop n)) := by
 have := v_substr (P := P) (Gl := Gl) (B := B) (h := (s.length : Int)) hT ho ht hx hl rfl h0 h2 (Int.le_refl _)
 rw [hn, Int.toNat_natCast, List.take_length] at this; exact this
theorem v_takeR {α : Type} {e : α → PV} {t : TypeId} {x : Operand} {hi : Option Operand} {xs : List α} {h : Int} (n : Nat) (hT : Tys P tys) (ho : o.op = .slice t x none hi none) {el s b z1 z2 : Nat} {z3 : Option (List PV)} (ht : tys[t]? = some ⟨.sl el s b, z1, z2, z3⟩)
  (hx : pe env x = .sl (xs.map e)) (hh : bnd env (xs.map e).length hi = some h) (hn : h.toNat = n) (h0 : 0 ≤ h) (h2 : n ≤ xs.length) (hs : ∀ x, (e x).cells.length = s) : OpV P Gl B o env (.sl ((xs.take n).map e)) :=
 v_takeM hT ho ht hx (by rw [hh, ← hn, Int.toNat_of_nonneg h0]) h2 hs
theorem v_dropR {α : Type} {e : α → PV} {t : TypeId} {x : Operand} {lo : Option Operand} {xs : List α} {l : Int} (n : Nat) (hT : Tys P tys) (ho : o.op = .slice t x lo none none) {el s b z1 z2 : Nat} {z3 : Option (List PV)} (ht : tys[t]? = some ⟨.sl el s b, z1, z2, z3⟩)
  (hx : pe env x = .sl (xs.map e)) (hl : bnd env 0 lo = some l) (hn : l.toNat = n) (h0 : 0 ≤ l) (h2 : n ≤ xs.length) (hs : ∀ x, (e x).cells.length = s) : OpV P Gl B o env (.sl ((xs.drop n).map e)) :=
 v_dropM hT ho ht hx (by rw [hl, ← hn, Int.toNat_of_nonneg h0]) h2 hs
theorem v_quoP {t t' : TypeId} {x y : Operand} {k : IntKind} {a b c : Int} (ho : o.op = .binOp .quo t x y t') (ha : pe env x = .int k a) (hb : pe env y = .int k b) (h0 : 0 ≤ a) (h1 : 0 < b) (hc : k.wrap (a / b) = c) : OpV P Gl B o env (.int k c) :=
 v_quo ho ha hb (by omega) (by rw [Int.tdiv_eq_ediv_of_nonneg h0]; exact hc)
theorem v_remP {t t' : TypeId} {x y : Operand} {k : IntKind} {a b : Int} (ho : o.op = .binOp .rem t x y t') (ha : pe env x = .int k a) (hb : pe env y = .int k b) (h0 : 0 ≤ a) (h1 : 0 < b) : OpV P Gl B o env (.int k (a % b)) :=
 v_rem ho ha hb (by omega) (Int.tmod_eq_emod_of_nonneg h0)
theorem tn0 : Int.toNat 0 = 0 := rfl
theorem tn1 : Int.toNat 1 = 1 := rfl
theorem tn2 : Int.toNat 2 = 2 := rfl
theorem tn3 : Int.toNat 3 = 3 := rfl
theorem tn4 : Int.toNat 4 = 4 := rfl
theorem tn5 : Int.toNat 5 = 5 := rfl
theorem tn6 : Int.toNat 6 = 6 := rfl
theorem tn7 : Int.toNat 7 = 7 := rfl
theorem tn8 : Int.toNat 8 = 8 := rfl
theorem tn9 : Int.toNat 9 = 9 := rfl
theorem toNat_sub (n m : Nat) : ((n : Int) - (OfNat.ofNat m : Int)).toNat = n - OfNat.ofNat m := by
 show ((n : Int) - (m : Int)).toNat = n - m
 omega
theorem toNat_add (n m : Nat) : ((n : Int) + (OfNat.ofNat m : Int)).toNat = n + OfNat.ofNat m := by
 show ((n : Int) + (m : Int)).toNat = n + m
 omega
variable {c : Operand} {x y : Code}
def pickAt (t : Nat) : List Oper → Nat → Option (Nat × Nat × Bool)
 | [], _ => none
 | o :: l, k => match o.op, o.dst with
  | .pick (.tmp c) a b, some d => match Nat.beq c t with
   | true => match b, a with
    | .const (.bool false), _ => some (k + 1, d, true)
    | _, .const (.bool true) => some (k + 1, d, false)
    | _, _ => none
   | false => pickAt t l (k + 1)
  | _, _ => pickAt t l (k + 1)
theorem pl_lzA {α : Prop} {j n t d : Nat} {b e1 : Bool} {ds : List Nat} {envM : List PV} (_hg : o.guard = some (j, true)) (_ht : (ops[j]?).bind (·.dst) = some t) (hj : env[t]? = some (.bool b)) (_hp : pickAt t (o :: rest) 0 = some (n, d, true)) (hα : (b = true) = α)
  (hds : (forceN (dstsL ((o :: rest).take n)) fun l => (l, ())) = (ds, ())) (hM : (headK ds [] 0 env fun e => (e, ())) = (envM, ()))
  (h1 : α → PWL P Gl B ops ((o :: rest).take n) (env.set t (.bool true)) st (midOf fun env' st' => Le env' ((envM.set t (.bool true)).set d (.bool e1)) ∧ StLe st' st))
  (h0 : ¬ α → PWL P Gl B ops ((o :: rest).take n) (env.set t (.bool false)) st (midOf fun env' st' => Le env' ((envM.set t (.bool false)).set d (.bool false)) ∧ StLe st' st))
  (hr : PWL P Gl B ops ((o :: rest).drop n) ((envM.set t (.bool b)).set d (.bool (b && e1))) st Q) : PWL P Gl B ops (o :: rest) env st Q :=
 pl_and n t d e1 hj hds hM (fun h => h1 (hα ▸ h)) (fun h => h0 (hα ▸ (by simp [h]))) hr
theorem pl_lzO {α : Prop} {j n t d : Nat} {b e0 : Bool} {ds : List Nat} {envM : List PV} (_hg : o.guard = some (j, false)) (_ht : (ops[j]?).bind (·.dst) = some t) (hj : env[t]? = some (.bool b)) (_hp : pickAt t (o :: rest) 0 = some (n, d, false)) (hα : (b = true) = α)
  (hds : (forceN (dstsL ((o :: rest).take n)) fun l => (l, ())) = (ds, ())) (hM : (headK ds [] 0 env fun e => (e, ())) = (envM, ()))
  (h0 : ¬ α → PWL P Gl B ops ((o :: rest).take n) (env.set t (.bool false)) st (midOf fun env' st' => Le env' ((envM.set t (.bool false)).set d (.bool e0)) ∧ StLe st' st))
  (h1 : α → PWL P Gl B ops ((o :: rest).take n) (env.set t (.bool true)) st (midOf fun env' st' => Le env' ((envM.set t (.bool true)).set d (.bool true)) ∧ StLe st' st))
  (hr : PWL P Gl B ops ((o :: rest).drop n) ((envM.set t (.bool b)).set d (.bool (b || e0))) st Q) : PWL P Gl B ops (o :: rest) env st Q :=
 pl_or n t d e0 hj hds hM (fun h => h1 (hα ▸ h)) (fun h => h0 (hα ▸ (by simp [h]))) hr
theorem pw_test {α : Prop} {t : Nat} {b : Bool} (hc : c = .tmp t) (hj : env[t]? = some (.bool b)) (hα : (b = true) = α) (ht : α → PW P Gl B x (env.set t (.bool true)) st Q) (hf : ¬ α → PW P Gl B y (env.set t (.bool false)) st Q) : PW P Gl B (.cond c x y) env st Q := by
 have hs := set_self hj
 subst hc
 refine pw_cond (t := b) (by simp [pe, hj]) (fun h => ?_) (fun h => ?_)
 ·subst h; have := ht (hα ▸ rfl); rwa [hs] at this
 ·subst h; have := hf (hα ▸ (by simp)); rwa [hs] at this
theorem po_test {E : List PV → List PObj → List (Nat × Nat) → Prop} {α : Prop} {i j t : Nat} {k want b : Bool} {oi : Oper} {ord : List (Nat × Bool)} {L : List (Nat × Nat)} (_ho : ops[i]? = some oi) (_hg : oi.guard = some (j, want)) (_ht : (ops[j]?).bind (·.dst) = some t) (hj : env[t]? = some (.bool b)) (hα : (b = true) = α)
  (h1 : α → PWO P Gl B ops E ((i, k) :: ord) (env.set t (.bool true)) st L) (h0 : ¬ α → PWO P Gl B ops E ((i, k) :: ord) (env.set t (.bool false)) st L) : PWO P Gl B ops E ((i, k) :: ord) env st L :=
 po_split t hj (fun h => h1 (hα ▸ h)) (fun h => h0 (hα ▸ (by simp [h])))
theorem po_both {o1 o2 : List (Nat × Bool)} {L : List (Nat × Nat)} (h1 : PWO P Gl B ops (atEnd Q) o1 env st L) (h2 : PWO P Gl B ops (atEnd Q) o2 env st L) : eitherOf P Gl B ops Q o1 o2 env st L := by
 unfold eitherOf
 exact ⟨h1, h2⟩
end
theorem iE {k : IntKind} {a b : Int} (h : a = b) : PV.int k a = PV.int k b := h ▸ rfl
theorem bT : (true = true) = True := by simp
theorem bF : (false = true) = False := by simp
theorem bD (p : Prop) [Decidable p] : (decide p = true) = p := decide_eq_true_eq
theorem bE {α : Type} [BEq α] [LawfulBEq α] (a b : α) : ((a == b) = true) = (a = b) := propext beq_iff_eq
theorem bNe {α : Type} [BEq α] [LawfulBEq α] (a b : α) : ((a != b) = true) = ¬ a = b := by simp
theorem bN (b : Bool) {α : Prop} (h : (b = true) = α) : ((!b) = true) = ¬ α := by rw [← h]; simp
theorem bB (b : Bool) : (b = true) = (b = true) := rfl
theorem bA (a b : Bool) {α β : Prop} (ha : (a = true) = α) (hb : (b = true) = β) : ((a && b) = true) = (α ∧ β) := by rw [Bool.and_eq_true, ha, hb]
theorem bO (a b : Bool) {α β : Prop} (ha : (a = true) = α) (hb : (b = true) = β) : ((a || b) = true) = (α ∨ β) := by rw [Bool.or_eq_true, ha, hb]
theorem zB {X : Prop} (h : X := by (fail_if_success (first | exact bT | exact bF)); repeat' (first | exact bD _ | exact bE _ _ | exact bNe _ _ | apply bA | apply bO | apply bN | exact bB _)) : X := h
section
variable {P : Program} {Gl : Glob} {B : Base} {env : List PV} {st : List PObj} {Q : Post} {c : Operand} {x y : Code}
theorem zT {α : Prop} {t : Nat} {b : Bool} (ht : α → PW P Gl B x (env.set t (.bool true)) st Q) (hf : ¬ α → PW P Gl B y (env.set t (.bool false)) st Q) (hc : c = .tmp t := by exact rfl) (hj : env[t]? = some (.bool b) := by exact rfl) (hα : (b = true) = α := by exact zB) : PW P Gl B (.cond c x y) env st Q := pw_test hc hj hα ht hf
end
section
variable {P : Program} {Gl : Glob} {B : Base} {env : List PV} {st : List PObj}
theorem zCl {o : Oper} {K : PV → List PObj → Prop} {fop : Operand} {args : Array Operand} {ats : Array TypeId} {f : FuncId} {caps : List PV} {Q : PV → List PObj → Prop} {cargs : List PV} {cst : List PObj} (sel : List Nat) (hent : Enters P f) (hc : PCalls P Gl f cargs cst Q) (hK : ∀ r st', Q r st' → r.refs (fun _ => true) 5 = true ∧ st'.all (PObj.refs (fun _ => true) 5) = true ∧ K (r.ren (idxOut sel st.length) 5) (merge sel st (st'.map (PObj.ren (idxOut sel st.length) 5)))) (ho : o.op = .call ⟨.value fop, args, ats⟩ := by exact rfl) (hf : pe env fop = .fn f caps := by exact rfl) (hnd : sel.Nodup := by decide) (hlive : sel.all (fun i => (st.getD i .dead).live && (st.getD i .dead).stays) = true := by exact rfl) (hrefs : (args.toList.map (pe env) ++ caps).all (PV.refs sel.contains 5) = true := by exact rfl) (hobjs : sel.all (fun i => (st.getD i .dead).refs sel.contains 5) = true := by exact rfl) (hle : Le ((args.toList.map (pe env) ++ caps).map (PV.ren (idxIn sel) 5)) cargs := by exact zLe) (hls : StLe (selSt sel st) cst := by exact zLes) : OpP P Gl B o env st K := op_call sel ho hf hent hnd hlive hrefs hobjs hle hls hc hK
end
theorem zX {G : Prop} (h : False := by omega) : G := h.elim
theorem zF {X : Prop} (h : X := by (repeat (first | exact True.intro | refine ⟨.inr (.inl rfl), ?_⟩))) : X := h
theorem zNq {G X : Prop} (k : X) (h : Kp X → G := by (intro zk; (first | refine pw_norm rfl ?_ | refine pw_normE rfl ?_); exact Kp.out zk)) : G := h ⟨k⟩
theorem zD0 {G X : Prop} (k : X) (h : Kp X → G := by (intro zk; ((first | (refine po_val rfl rfl (v_lenM hT rfl (fun _ => rfl)) ?_; (first | refine po_norm rfl ?_ | refine po_normE rfl ?_)) | (refine po_gval rfl rfl rfl (v_lenM hT rfl (fun _ => rfl)) ?_; (first | refine po_norm rfl ?_ | refine po_normE rfl ?_)) | refine po_free hT rfl ?_ | refine po_nil ?_ | (refine po_step rfl rfl (op_boxF rfl rfl rfl ⟨(by (repeat (first | exact True.intro | refine ⟨.inr rfl, ?_⟩ | refine ⟨.inl (by decide +kernel), ?_⟩))), ?_⟩); (first | refine po_norm rfl ?_ | refine po_normE rfl ?_)) | (refine po_step rfl rfl (op_alloc hT rfl rfl ⟨(by (repeat (first | exact True.intro | refine ⟨.inr rfl, ?_⟩ | refine ⟨.inl (by decide +kernel), ?_⟩))), ?_⟩); (first | refine po_norm rfl ?_ | refine po_normE rfl ?_)) | (refine po_step rfl rfl (op_storeF hT rfl rfl rfl rfl rfl rfl rfl rfl (Nat.le_of_ble_eq_true rfl) ⟨(by (repeat (first | exact True.intro | refine ⟨.inr rfl, ?_⟩ | refine ⟨.inl (by decide +kernel), ?_⟩))), ?_⟩); (first | refine po_norm rfl ?_ | refine po_normE rfl ?_)) | (refine po_off rfl rfl rfl (by decide) ?_; (first | refine po_norm rfl ?_ | refine po_normE rfl ?_)) | (refine po_offN rfl rfl rfl ?_; (first | refine po_norm rfl ?_ | refine po_normE rfl ?_)) | (refine po_gval rfl rfl rfl (v_arith rfl rfl rfl rfl (wrap_i64 (by omega) (by omega))) ?_; (first | refine po_norm rfl ?_ | refine po_normE rfl ?_)) | (refine po_val rfl rfl (v_arith rfl rfl rfl rfl (wrap_i64 (by omega) (by omega))) ?_; (first | refine po_norm rfl ?_ | refine po_normE rfl ?_)) | (refine po_make rfl rfl (fun st' K hK => op_litF hT rfl rfl rfl rfl rfl (by decide) rfl rfl rfl rfl hK) ?_; (first | refine po_norm rfl ?_ | refine po_normE rfl ?_)) | (refine po_val rfl rfl (v_byte _ hT rfl rfl rfl rfl zTN zOM zOM) ?_; (first | refine po_norm rfl ?_ | refine po_normE rfl ?_)) | (refine po_gval rfl rfl rfl (v_byte _ hT rfl rfl rfl rfl zTN zOM zOM) ?_; (first | refine po_norm rfl ?_ | refine po_normE rfl ?_)) | (refine po_val rfl rfl (v_nthS _ hT rfl rfl rfl rfl zTN zOM zOM rfl) ?_; (first | refine po_norm rfl ?_ | refine po_normE rfl ?_)) | (refine po_gval rfl rfl rfl (v_nthS _ hT rfl rfl rfl rfl zTN zOM zOM rfl) ?_; (first | refine po_norm rfl ?_ | refine po_normE rfl ?_)) | (refine po_val rfl rfl (v_nth _ hT rfl rfl rfl rfl zTN zOM zOM (fun _ => rfl)) ?_; (first | refine po_norm rfl ?_ | refine po_normE rfl ?_)) | (refine po_gval rfl rfl rfl (v_nth _ hT rfl rfl rfl rfl zTN zOM zOM (fun _ => rfl)) ?_; (first | refine po_norm rfl ?_ | refine po_normE rfl ?_)) | (refine po_val rfl rfl (v_arith rfl rfl rfl rfl zWR) ?_; (first | refine po_norm rfl ?_ | refine po_normE rfl ?_)) | (refine po_gval rfl rfl rfl (v_arith rfl rfl rfl rfl zWR) ?_; (first | refine po_norm rfl ?_ | refine po_normE rfl ?_)) | (refine po_val rfl rfl (v_conv hT rfl rfl rfl rfl zWR) ?_; (first | refine po_norm rfl ?_ | refine po_normE rfl ?_)) | (refine po_gval rfl rfl rfl (v_conv hT rfl rfl rfl rfl zWR) ?_; (first | refine po_norm rfl ?_ | refine po_normE rfl ?_)) | (refine po_val rfl rfl (v_concat rfl rfl rfl zOML) ?_; (first | refine po_norm rfl ?_ | refine po_normE rfl ?_)) | (refine po_gval rfl rfl rfl (v_concat rfl rfl rfl zOML) ?_; (first | refine po_norm rfl ?_ | refine po_normE rfl ?_)) | (refine po_val rfl rfl (v_takeS _ hT rfl rfl rfl rfl zTN zOM zOM) ?_; (first | refine po_norm rfl ?_ | refine po_normE rfl ?_)) | (refine po_gval rfl rfl rfl (v_takeS _ hT rfl rfl rfl rfl zTN zOM zOM) ?_; (first | refine po_norm rfl ?_ | refine po_normE rfl ?_)) | (refine po_val rfl rfl (v_dropS _ hT rfl rfl rfl rfl zTN zOM zOM) ?_; (first | refine po_norm rfl ?_ | refine po_normE rfl ?_)) | (refine po_gval rfl rfl rfl (v_dropS _ hT rfl rfl rfl rfl zTN zOM zOM) ?_; (first | refine po_norm rfl ?_ | refine po_normE rfl ?_)) | (refine po_val rfl rfl (v_takeR _ hT rfl rfl rfl rfl zTN zOM zOM (fun _ => rfl)) ?_; (first | refine po_norm rfl ?_ | refine po_normE rfl ?_)) | (refine po_gval rfl rfl rfl (v_takeR _ hT rfl rfl rfl rfl zTN zOM zOM (fun _ => rfl)) ?_; (first | refine po_norm rfl ?_ | refine po_normE rfl ?_)) | (refine po_val rfl rfl (v_dropR _ hT rfl rfl rfl rfl zTN zOM zOM (fun _ => rfl)) ?_; (first | refine po_norm rfl ?_ | refine po_normE rfl ?_)) | (refine po_gval rfl rfl rfl (v_dropR _ hT rfl rfl rfl rfl zTN zOM zOM (fun _ => rfl)) ?_; (first | refine po_norm rfl ?_ | refine po_normE rfl ?_)) | (refine po_val rfl rfl (v_substr hT rfl rfl rfl rfl rfl zOM zOM zOM) ?_; (first | refine po_norm rfl ?_ | refine po_normE rfl ?_)) | (refine po_gval rfl rfl rfl (v_substr hT rfl rfl rfl rfl rfl zOM zOM zOM) ?_; (first | refine po_norm rfl ?_ | refine po_normE rfl ?_)) | (refine po_val rfl rfl (v_quoP rfl rfl rfl zOM zOM zWR) ?_; (first | refine po_norm rfl ?_ | refine po_normE rfl ?_)) | (refine po_gval rfl rfl rfl (v_quoP rfl rfl rfl zOM zOM zWR) ?_; (first | refine po_norm rfl ?_ | refine po_normE rfl ?_)) | (refine po_val rfl rfl (v_remP rfl rfl rfl zOM zOM) ?_; (first | refine po_norm rfl ?_ | refine po_normE rfl ?_)) | (refine po_gval rfl rfl rfl (v_remP rfl rfl rfl zOM zOM) ?_; (first | refine po_norm rfl ?_ | refine po_normE rfl ?_)) | (refine po_val rfl rfl (v_eqS hT rfl rfl rfl (by kernel_rfl) rfl) ?_; (first | refine po_norm rfl ?_ | refine po_normE rfl ?_)) | (refine po_gval rfl rfl rfl (v_eqS hT rfl rfl rfl (by kernel_rfl) rfl) ?_; (first | refine po_norm rfl ?_ | refine po_normE rfl ?_)) | (refine po_val rfl rfl (v_neS hT rfl rfl rfl (by kernel_rfl) rfl) ?_; (first | refine po_norm rfl ?_ | refine po_normE rfl ?_)) | (refine po_gval rfl rfl rfl (v_neS hT rfl rfl rfl (by kernel_rfl) rfl) ?_; (first | refine po_norm rfl ?_ | refine po_normE rfl ?_)) | (refine po_val rfl rfl (v_indexA hT rfl rfl rfl rfl (by first | exact Int.le_refl _ | omega | decide) (by first | exact Int.le_refl _ | omega | decide)) ?_; (first | refine po_norm rfl ?_ | refine po_normE rfl ?_)) | (refine po_gval rfl rfl rfl (v_indexA hT rfl rfl rfl rfl (by first | exact Int.le_refl _ | omega | decide) (by first | exact Int.le_refl _ | omega | decide)) ?_; (first | refine po_norm rfl ?_ | refine po_normE rfl ?_)) | (refine po_val rfl rfl (v_gaddr hT rfl rfl rfl rfl (by first | exact Int.le_refl _ | omega | decide) (by first | exact Int.le_refl _ | omega | decide)) ?_; (first | refine po_norm rfl ?_ | refine po_normE rfl ?_)) | (refine po_gval rfl rfl rfl (v_gaddr hT rfl rfl rfl rfl (by first | exact Int.le_refl _ | omega | decide) (by first | exact Int.le_refl _ | omega | decide)) ?_; (first | refine po_norm rfl ?_ | refine po_normE rfl ?_)) | (refine po_val rfl rfl (v_indexV hT rfl rfl rfl rfl rfl rfl (by first | exact Int.le_refl _ | omega | decide) (by first | exact Int.le_refl _ | omega | decide) rfl) ?_; (first | refine po_norm rfl ?_ | refine po_normE rfl ?_)) | (refine po_gval rfl rfl rfl (v_indexV hT rfl rfl rfl rfl rfl rfl (by first | exact Int.le_refl _ | omega | decide) (by first | exact Int.le_refl _ | omega | decide) rfl) ?_; (first | refine po_norm rfl ?_ | refine po_normE rfl ?_)) | (refine po_val rfl rfl (v_gcell hT rfl rfl rfl rfl (by assumption) rfl) ?_; (first | refine po_norm rfl ?_ | refine po_normE rfl ?_)) | (refine po_gval rfl rfl rfl (v_gcell hT rfl rfl rfl rfl (by assumption) rfl) ?_; (first | refine po_norm rfl ?_ | refine po_normE rfl ?_)) | (refine po_val rfl rfl (v_gload hT rfl rfl rfl (by assumption) rfl) ?_; (first | refine po_norm rfl ?_ | refine po_normE rfl ?_)) | (refine po_gval rfl rfl rfl (v_gload hT rfl rfl rfl (by assumption) rfl) ?_; (first | refine po_norm rfl ?_ | refine po_normE rfl ?_)) | (refine po_step rfl rfl (op_conG rfl rfl rfl (by exact inferInstance) zPRE (by rfl) (by rfl) ⟨(by (repeat (first | exact True.intro | refine ⟨.inr rfl, ?_⟩ | refine ⟨.inl (by decide +kernel), ?_⟩))), ?_⟩); (first | refine po_norm rfl ?_ | refine po_normE rfl ?_)) | (refine po_on rfl rfl rfl (op_conG rfl rfl rfl (by exact inferInstance) zPRE (by rfl) (by rfl) ⟨(by (repeat (first | exact True.intro | refine ⟨.inr rfl, ?_⟩ | refine ⟨.inl (by decide +kernel), ?_⟩))), ?_⟩); (first | refine po_norm rfl ?_ | refine po_normE rfl ?_)) | (refine po_step rfl rfl (op_conF rfl rfl rfl rfl zLND (by exact inferInstance) zPRE (by rfl) (by rfl) ⟨(by (repeat (first | exact True.intro | refine ⟨.inr rfl, ?_⟩ | refine ⟨.inl (by decide +kernel), ?_⟩))), ?_⟩); (first | refine po_norm rfl ?_ | refine po_normE rfl ?_)) | (refine po_on rfl rfl rfl (op_conF rfl rfl rfl rfl zLND (by exact inferInstance) zPRE (by rfl) (by rfl) ⟨(by (repeat (first | exact True.intro | refine ⟨.inr rfl, ?_⟩ | refine ⟨.inl (by decide +kernel), ?_⟩))), ?_⟩); (first | refine po_norm rfl ?_ | refine po_normE rfl ?_)))); exact Kp.out zk)) : G := h ⟨k⟩
theorem zD {G X : Prop} (k : X) (h : Kp X → G := by (intro zk; (refine zD0 ?_; (repeat refine zD0 ?_)); exact Kp.out zk)) : G := h ⟨k⟩
theorem zTN {X : Prop} (h : X := by first | exact tn0 | exact tn1 | exact tn2 | exact tn3 | exact tn4 | exact tn5 | exact tn6 | exact tn7 | exact tn8 | exact tn9 | exact toNat_sub _ _ | exact toNat_add _ _ | exact Int.toNat_natCast _ | exact Int.toNat_ofNat _ | exact rfl) : X := h
theorem zOM {X : Prop} (h : X := by first | omega | (simp only [List.length_map, List.length_take, List.length_drop] at *; omega)) : X := h
theorem zWR {X : Prop} (h : X := by first | exact Go.IntWalk.i64_in _ (by omega) | exact Go.IntWalk.u8_in _ (by omega) | exact Go.IntWalk.u32_in _ (by omega) | exact Go.IntWalk.u64_in _ (by omega) | exact Go.IntWalk.u16_in _ (by omega)) : X := h
theorem zOML {X : Prop} (h : X := by first | omega | (simp only [List.length_append, List.length_cons, List.length_nil] at *; omega)) : X := h
theorem zPRE {X : Prop} (h : X := by repeat' (first | exact trivial | assumption | apply And.intro | omega)) : X := h
theorem zLND {X : Prop} (h : X := by repeat' (first | exact trivial | exact rfl | apply And.intro)) : X := h
theorem zS0 {G X : Prop} (k : X) (h : Kp X → G := by (intro zk; ((first | (refine gG0 rfl ?_; (first | (refine gK kPure rfl ?_; (first | refine pl_pure hT rfl ?_ | (refine pl_op rfl (op_of (v_gcell hT rfl rfl rfl rfl (by assumption) rfl) ?_); (refine zNp ?_)) | (refine pl_op rfl (op_of (v_gload hT rfl rfl rfl (by assumption) rfl) ?_); (refine zNp ?_)))) | (refine gK kBin rfl ?_; (first | refine pl_pure hT rfl ?_ | (refine pl_op rfl (op_of (v_arith rfl rfl rfl rfl zWR) ?_); (refine zNp ?_)) | (refine pl_op rfl (op_of (v_concat rfl rfl rfl zOML) ?_); (refine zNp ?_)) | (refine pl_op rfl (op_of (v_quoP rfl rfl rfl zOM zOM zWR) ?_); (refine zNp ?_)) | (refine pl_op rfl (op_of (v_remP rfl rfl rfl zOM zOM) ?_); (refine zNp ?_)) | (refine pl_op rfl (op_of (v_eqS hT rfl rfl rfl (by kernel_rfl) rfl) ?_); (refine zNp ?_)) | (refine pl_op rfl (op_of (v_neS hT rfl rfl rfl (by kernel_rfl) rfl) ?_); (refine zNp ?_)))) | (refine gK kAddr rfl ?_; (first | (refine pl_op rfl (op_of (v_byte _ hT rfl rfl rfl rfl zTN zOM zOM) ?_); (refine zNp ?_)) | (refine pl_op rfl (op_of (v_nthS _ hT rfl rfl rfl rfl zTN zOM zOM rfl) ?_); (refine zNp ?_)) | (refine pl_op rfl (op_of (v_nth _ hT rfl rfl rfl rfl zTN zOM zOM (fun _ => rfl)) ?_); (refine zNp ?_)) | (refine pl_op rfl (op_of (v_indexA hT rfl rfl rfl rfl (by first | exact Int.le_refl _ | omega | decide) (by first | exact Int.le_refl _ | omega | decide)) ?_); (refine zNp ?_)) | (refine pl_op rfl (op_of (v_gaddr hT rfl rfl rfl rfl (by first | exact Int.le_refl _ | omega | decide) (by first | exact Int.le_refl _ | omega | decide)) ?_); (refine zNp ?_)) | (refine pl_op rfl (op_of (v_indexV hT rfl rfl rfl rfl rfl rfl (by first | exact Int.le_refl _ | omega | decide) (by first | exact Int.le_refl _ | omega | decide) rfl) ?_); (refine zNp ?_)))) | (refine gK kLen rfl ?_; (first | (refine pl_op rfl (op_of (v_lenM hT rfl (fun _ => rfl)) ?_); (refine zNp ?_)) | refine pl_pure hT rfl ?_)) | (refine gK kCall rfl ?_; (first | (refine pl_op rfl (op_conG rfl rfl rfl (by exact inferInstance) zPRE (by rfl) (by rfl) ?_); (refine zNp ?_)) | (refine pl_op rfl (op_conF rfl rfl rfl rfl zLND (by exact inferInstance) zPRE (by rfl) (by rfl) ?_); (refine zNp ?_)))) | (refine gK kConv rfl ?_; (refine pl_op rfl (op_of (v_conv hT rfl rfl rfl rfl zWR) ?_); (refine zNp ?_))) | (refine gK kSlice rfl ?_; (first | (refine pl_op rfl (op_of (v_takeS _ hT rfl rfl rfl rfl zTN zOM zOM) ?_); (refine zNp ?_)) | (refine pl_op rfl (op_of (v_dropS _ hT rfl rfl rfl rfl zTN zOM zOM) ?_); (refine zNp ?_)) | (refine pl_op rfl (op_of (v_takeR _ hT rfl rfl rfl rfl zTN zOM zOM (fun _ => rfl)) ?_); (refine zNp ?_)) | (refine pl_op rfl (op_of (v_dropR _ hT rfl rfl rfl rfl zTN zOM zOM (fun _ => rfl)) ?_); (refine zNp ?_)) | (refine pl_op rfl (op_of (v_substr hT rfl rfl rfl rfl rfl zOM zOM zOM) ?_); (refine zNp ?_)))) | (refine gK kBox rfl ?_; (first | (refine pl_op rfl (op_boxF rfl rfl rfl ?_); (refine zNp ?_)) | (refine pl_op rfl (op_alloc hT rfl rfl ?_); (refine zNp ?_)))) | (refine gK kStore rfl ?_; (refine pl_op rfl (op_storeF hT rfl rfl rfl rfl rfl rfl rfl rfl (Nat.le_of_ble_eq_true rfl) ?_); (refine zNp ?_))) | (refine gK kLit rfl ?_; (refine pl_op rfl (op_litF hT rfl rfl rfl rfl rfl (by decide) rfl rfl rfl rfl ?_); (refine zNp ?_))))) | (refine gG1 rfl ?_; (first | refine pl_goff rfl ?_ | (refine gK kPure rfl ?_; (first | refine pl_gpure hT rfl ?_ | (refine pl_on rfl rfl (op_of (v_gcell hT rfl rfl rfl rfl (by assumption) rfl) ?_); (refine zNp ?_)) | (refine pl_on rfl rfl (op_of (v_gload hT rfl rfl rfl (by assumption) rfl) ?_); (refine zNp ?_)))) | (refine gK kBin rfl ?_; (first | refine pl_gpure hT rfl ?_ | (refine pl_on rfl rfl (op_of (v_arith rfl rfl rfl rfl zWR) ?_); (refine zNp ?_)) | (refine pl_on rfl rfl (op_of (v_concat rfl rfl rfl zOML) ?_); (refine zNp ?_)) | (refine pl_on rfl rfl (op_of (v_quoP rfl rfl rfl zOM zOM zWR) ?_); (refine zNp ?_)) | (refine pl_on rfl rfl (op_of (v_remP rfl rfl rfl zOM zOM) ?_); (refine zNp ?_)) | (refine pl_on rfl rfl (op_of (v_eqS hT rfl rfl rfl (by kernel_rfl) rfl) ?_); (refine zNp ?_)) | (refine pl_on rfl rfl (op_of (v_neS hT rfl rfl rfl (by kernel_rfl) rfl) ?_); (refine zNp ?_)))) | (refine gK kAddr rfl ?_; (first | (refine pl_on rfl rfl (op_of (v_byte _ hT rfl rfl rfl rfl zTN zOM zOM) ?_); (refine zNp ?_)) | (refine pl_on rfl rfl (op_of (v_nthS _ hT rfl rfl rfl rfl zTN zOM zOM rfl) ?_); (refine zNp ?_)) | (refine pl_on rfl rfl (op_of (v_nth _ hT rfl rfl rfl rfl zTN zOM zOM (fun _ => rfl)) ?_); (refine zNp ?_)) | (refine pl_on rfl rfl (op_of (v_indexA hT rfl rfl rfl rfl (by first | exact Int.le_refl _ | omega | decide) (by first | exact Int.le_refl _ | omega | decide)) ?_); (refine zNp ?_)) | (refine pl_on rfl rfl (op_of (v_gaddr hT rfl rfl rfl rfl (by first | exact Int.le_refl _ | omega | decide) (by first | exact Int.le_refl _ | omega | decide)) ?_); (refine zNp ?_)) | (refine pl_on rfl rfl (op_of (v_indexV hT rfl rfl rfl rfl rfl rfl (by first | exact Int.le_refl _ | omega | decide) (by first | exact Int.le_refl _ | omega | decide) rfl) ?_); (refine zNp ?_)))) | (refine gK kLen rfl ?_; (first | (refine pl_on rfl rfl (op_of (v_lenM hT rfl (fun _ => rfl)) ?_); (refine zNp ?_)) | refine pl_gpure hT rfl ?_)) | (refine gK kCall rfl ?_; (first | (refine pl_on rfl rfl (op_conG rfl rfl rfl (by exact inferInstance) zPRE (by rfl) (by rfl) ?_); (refine zNp ?_)) | (refine pl_on rfl rfl (op_conF rfl rfl rfl rfl zLND (by exact inferInstance) zPRE (by rfl) (by rfl) ?_); (refine zNp ?_)))) | (refine gK kConv rfl ?_; (refine pl_on rfl rfl (op_of (v_conv hT rfl rfl rfl rfl zWR) ?_); (refine zNp ?_))) | (refine gK kSlice rfl ?_; (first | (refine pl_on rfl rfl (op_of (v_takeS _ hT rfl rfl rfl rfl zTN zOM zOM) ?_); (refine zNp ?_)) | (refine pl_on rfl rfl (op_of (v_dropS _ hT rfl rfl rfl rfl zTN zOM zOM) ?_); (refine zNp ?_)) | (refine pl_on rfl rfl (op_of (v_takeR _ hT rfl rfl rfl rfl zTN zOM zOM (fun _ => rfl)) ?_); (refine zNp ?_)) | (refine pl_on rfl rfl (op_of (v_dropR _ hT rfl rfl rfl rfl zTN zOM zOM (fun _ => rfl)) ?_); (refine zNp ?_)) | (refine pl_on rfl rfl (op_of (v_substr hT rfl rfl rfl rfl rfl zOM zOM zOM) ?_); (refine zNp ?_)))) | (refine gK kBox rfl ?_; (first | (refine pl_on rfl rfl (op_boxF rfl rfl rfl ?_); (refine zNp ?_)) | (refine pl_on rfl rfl (op_alloc hT rfl rfl ?_); (refine zNp ?_)))) | (refine gK kStore rfl ?_; (refine pl_on rfl rfl (op_storeF hT rfl rfl rfl rfl rfl rfl rfl rfl (Nat.le_of_ble_eq_true rfl) ?_); (refine zNp ?_))) | (refine gK kLit rfl ?_; (refine pl_on rfl rfl (op_litF hT rfl rfl rfl rfl rfl (by decide) rfl rfl rfl rfl ?_); (refine zNp ?_))))) | refine pl_nil ?_ | refine pw_seq ?_ | refine pw_region ?_ | refine pw_block ?_ | refine pw_skip ?_ | refine pw_condT rfl ?_ | refine pw_condF rfl ?_ | refine pw_exit ?_ | refine pw_ret ?_)); exact Kp.out zk)) : G := h ⟨k⟩
theorem zS {G X : Prop} (k : X) (h : Kp X → G := by (intro zk; (refine zS0 ?_; (repeat refine zS0 ?_)); exact Kp.out zk)) : G := h ⟨k⟩
section
variable {P : Program} {Gl : Glob} {B : Base} {env : List PV} {st : List PObj} {ops : Array Oper} {rest : List Oper} {o : Oper} {Q : Post}
theorem zlA1 {α : Prop} {j n t d : Nat} {b e : Bool} {ds : List Nat} {envM : List PV} (hg : o.guard = some (j, true)) (ht : (ops[j]?).bind (·.dst) = some t) (hj : env[t]? = some (.bool b)) (hp : pickAt t (o :: rest) 0 = some (n, d, true)) (hα : (b = true) = α)
  (hds : (forceN (dstsL ((o :: rest).take n)) fun l => (l, ())) = (ds, ())) (hM : (headK ds [] 0 env fun e => (e, ())) = (envM, ())) (hr : PWL P Gl B ops ((o :: rest).drop n) ((envM.set t (.bool b)).set d (.bool (b && e))) st Q)
  (h1 : α → PWL P Gl B ops ((o :: rest).take n) (env.set t (.bool true)) st (midOf fun env' st' => Le env' ((envM.set t (.bool true)).set d (.bool e)) ∧ StLe st' st) := by (intro hb; refine zNp ?_; (repeat' (first | refine zS ?_ | exact ⟨zLe, StLe.refl _⟩))))
  (h0 : ¬ α → PWL P Gl B ops ((o :: rest).take n) (env.set t (.bool false)) st (midOf fun env' st' => Le env' ((envM.set t (.bool false)).set d (.bool false)) ∧ StLe st' st) := by (intro hb; refine zNp ?_; (repeat' (first | refine zS ?_ | exact ⟨zLe, StLe.refl _⟩)))) : PWL P Gl B ops (o :: rest) env st Q :=
 pl_lzA hg ht hj hp hα hds hM h1 h0 hr
theorem zlO1 {α : Prop} {j n t d : Nat} {b e : Bool} {ds : List Nat} {envM : List PV} (hg : o.guard = some (j, false)) (ht : (ops[j]?).bind (·.dst) = some t) (hj : env[t]? = some (.bool b)) (hp : pickAt t (o :: rest) 0 = some (n, d, false)) (hα : (b = true) = α)
  (hds : (forceN (dstsL ((o :: rest).take n)) fun l => (l, ())) = (ds, ())) (hM : (headK ds [] 0 env fun e => (e, ())) = (envM, ())) (hr : PWL P Gl B ops ((o :: rest).drop n) ((envM.set t (.bool b)).set d (.bool (b || e))) st Q)
  (h1 : ¬ α → PWL P Gl B ops ((o :: rest).take n) (env.set t (.bool false)) st (midOf fun env' st' => Le env' ((envM.set t (.bool false)).set d (.bool e)) ∧ StLe st' st) := by (intro hb; refine zNp ?_; (repeat' (first | refine zS ?_ | exact ⟨zLe, StLe.refl _⟩))))
  (h0 : α → PWL P Gl B ops ((o :: rest).take n) (env.set t (.bool true)) st (midOf fun env' st' => Le env' ((envM.set t (.bool true)).set d (.bool true)) ∧ StLe st' st) := by (intro hb; refine zNp ?_; (repeat' (first | refine zS ?_ | exact ⟨zLe, StLe.refl _⟩)))) : PWL P Gl B ops (o :: rest) env st Q :=
 pl_lzO hg ht hj hp hα hds hM h1 h0 hr
theorem zlA2 {α : Prop} {j n t d : Nat} {b e : Bool} {ds : List Nat} {envM : List PV} (hg : o.guard = some (j, true)) (ht : (ops[j]?).bind (·.dst) = some t) (hj : env[t]? = some (.bool b)) (hp : pickAt t (o :: rest) 0 = some (n, d, true)) (hα : (b = true) = α)
  (hds : (forceN (dstsL ((o :: rest).take n)) fun l => (l, ())) = (ds, ())) (hM : (headK ds [] 0 env fun e => (e, ())) = (envM, ())) (hr : PWL P Gl B ops ((o :: rest).drop n) ((envM.set t (.bool b)).set d (.bool (b && e))) st Q)
  (h1 : α → PWL P Gl B ops ((o :: rest).take n) (env.set t (.bool true)) st (midOf fun env' st' => Le env' ((envM.set t (.bool true)).set d (.bool e)) ∧ StLe st' st) := by (intro hb; refine zNp ?_; (repeat' (first | refine zS ?_ | exact ⟨zLe, StLe.refl _⟩ | refine zlA1 rfl rfl rfl rfl zB rfl rfl (zNp ?_) | refine zlO1 rfl rfl rfl rfl zB rfl rfl (zNp ?_)))))
  (h0 : ¬ α → PWL P Gl B ops ((o :: rest).take n) (env.set t (.bool false)) st (midOf fun env' st' => Le env' ((envM.set t (.bool false)).set d (.bool false)) ∧ StLe st' st) := by (intro hb; refine zNp ?_; (repeat' (first | refine zS ?_ | exact ⟨zLe, StLe.refl _⟩ | refine zlA1 rfl rfl rfl rfl zB rfl rfl (zNp ?_) | refine zlO1 rfl rfl rfl rfl zB rfl rfl (zNp ?_))))) : PWL P Gl B ops (o :: rest) env st Q :=
 pl_lzA hg ht hj hp hα hds hM h1 h0 hr
theorem zlO2 {α : Prop} {j n t d : Nat} {b e : Bool} {ds : List Nat} {envM : List PV} (hg : o.guard = some (j, false)) (ht : (ops[j]?).bind (·.dst) = some t) (hj : env[t]? = some (.bool b)) (hp : pickAt t (o :: rest) 0 = some (n, d, false)) (hα : (b = true) = α)
  (hds : (forceN (dstsL ((o :: rest).take n)) fun l => (l, ())) = (ds, ())) (hM : (headK ds [] 0 env fun e => (e, ())) = (envM, ())) (hr : PWL P Gl B ops ((o :: rest).drop n) ((envM.set t (.bool b)).set d (.bool (b || e))) st Q)
  (h1 : ¬ α → PWL P Gl B ops ((o :: rest).take n) (env.set t (.bool false)) st (midOf fun env' st' => Le env' ((envM.set t (.bool false)).set d (.bool e)) ∧ StLe st' st) := by (intro hb; refine zNp ?_; (repeat' (first | refine zS ?_ | exact ⟨zLe, StLe.refl _⟩ | refine zlA1 rfl rfl rfl rfl zB rfl rfl (zNp ?_) | refine zlO1 rfl rfl rfl rfl zB rfl rfl (zNp ?_)))))
  (h0 : α → PWL P Gl B ops ((o :: rest).take n) (env.set t (.bool true)) st (midOf fun env' st' => Le env' ((envM.set t (.bool true)).set d (.bool true)) ∧ StLe st' st) := by (intro hb; refine zNp ?_; (repeat' (first | refine zS ?_ | exact ⟨zLe, StLe.refl _⟩ | refine zlA1 rfl rfl rfl rfl zB rfl rfl (zNp ?_) | refine zlO1 rfl rfl rfl rfl zB rfl rfl (zNp ?_))))) : PWL P Gl B ops (o :: rest) env st Q :=
 pl_lzO hg ht hj hp hα hds hM h1 h0 hr
theorem zlA3 {α : Prop} {j n t d : Nat} {b e : Bool} {ds : List Nat} {envM : List PV} (hg : o.guard = some (j, true)) (ht : (ops[j]?).bind (·.dst) = some t) (hj : env[t]? = some (.bool b)) (hp : pickAt t (o :: rest) 0 = some (n, d, true)) (hα : (b = true) = α)
  (hds : (forceN (dstsL ((o :: rest).take n)) fun l => (l, ())) = (ds, ())) (hM : (headK ds [] 0 env fun e => (e, ())) = (envM, ())) (hr : PWL P Gl B ops ((o :: rest).drop n) ((envM.set t (.bool b)).set d (.bool (b && e))) st Q)
  (h1 : α → PWL P Gl B ops ((o :: rest).take n) (env.set t (.bool true)) st (midOf fun env' st' => Le env' ((envM.set t (.bool true)).set d (.bool e)) ∧ StLe st' st) := by (intro hb; refine zNp ?_; (repeat' (first | refine zS ?_ | exact ⟨zLe, StLe.refl _⟩ | refine zlA1 rfl rfl rfl rfl zB rfl rfl (zNp ?_) | refine zlO1 rfl rfl rfl rfl zB rfl rfl (zNp ?_) | refine zlA2 rfl rfl rfl rfl zB rfl rfl (zNp ?_) | refine zlO2 rfl rfl rfl rfl zB rfl rfl (zNp ?_)))))
  (h0 : ¬ α → PWL P Gl B ops ((o :: rest).take n) (env.set t (.bool false)) st (midOf fun env' st' => Le env' ((envM.set t (.bool false)).set d (.bool false)) ∧ StLe st' st) := by (intro hb; refine zNp ?_; (repeat' (first | refine zS ?_ | exact ⟨zLe, StLe.refl _⟩ | refine zlA1 rfl rfl rfl rfl zB rfl rfl (zNp ?_) | refine zlO1 rfl rfl rfl rfl zB rfl rfl (zNp ?_) | refine zlA2 rfl rfl rfl rfl zB rfl rfl (zNp ?_) | refine zlO2 rfl rfl rfl rfl zB rfl rfl (zNp ?_))))) : PWL P Gl B ops (o :: rest) env st Q :=
 pl_lzA hg ht hj hp hα hds hM h1 h0 hr
theorem zlO3 {α : Prop} {j n t d : Nat} {b e : Bool} {ds : List Nat} {envM : List PV} (hg : o.guard = some (j, false)) (ht : (ops[j]?).bind (·.dst) = some t) (hj : env[t]? = some (.bool b)) (hp : pickAt t (o :: rest) 0 = some (n, d, false)) (hα : (b = true) = α)
  (hds : (forceN (dstsL ((o :: rest).take n)) fun l => (l, ())) = (ds, ())) (hM : (headK ds [] 0 env fun e => (e, ())) = (envM, ())) (hr : PWL P Gl B ops ((o :: rest).drop n) ((envM.set t (.bool b)).set d (.bool (b || e))) st Q)
  (h1 : ¬ α → PWL P Gl B ops ((o :: rest).take n) (env.set t (.bool false)) st (midOf fun env' st' => Le env' ((envM.set t (.bool false)).set d (.bool e)) ∧ StLe st' st) := by (intro hb; refine zNp ?_; (repeat' (first | refine zS ?_ | exact ⟨zLe, StLe.refl _⟩ | refine zlA1 rfl rfl rfl rfl zB rfl rfl (zNp ?_) | refine zlO1 rfl rfl rfl rfl zB rfl rfl (zNp ?_) | refine zlA2 rfl rfl rfl rfl zB rfl rfl (zNp ?_) | refine zlO2 rfl rfl rfl rfl zB rfl rfl (zNp ?_)))))
  (h0 : α → PWL P Gl B ops ((o :: rest).take n) (env.set t (.bool true)) st (midOf fun env' st' => Le env' ((envM.set t (.bool true)).set d (.bool true)) ∧ StLe st' st) := by (intro hb; refine zNp ?_; (repeat' (first | refine zS ?_ | exact ⟨zLe, StLe.refl _⟩ | refine zlA1 rfl rfl rfl rfl zB rfl rfl (zNp ?_) | refine zlO1 rfl rfl rfl rfl zB rfl rfl (zNp ?_) | refine zlA2 rfl rfl rfl rfl zB rfl rfl (zNp ?_) | refine zlO2 rfl rfl rfl rfl zB rfl rfl (zNp ?_))))) : PWL P Gl B ops (o :: rest) env st Q :=
 pl_lzO hg ht hj hp hα hds hM h1 h0 hr
theorem zq5 {X : Prop} (y : X) {α : Prop} {j n t d : Nat} {b e : Bool} {ds : List Nat} {envM : List PV} (hg : o.guard = some (j, true) := by exact rfl) (ht : (ops[j]?).bind (·.dst) = some t := by exact rfl) (hj : env[t]? = some (.bool b) := by exact rfl) (hp : pickAt t (o :: rest) 0 = some (n, d, true) := by exact rfl) (hα : (b = true) = α := by exact zB)
  (hds : (forceN (dstsL ((o :: rest).take n)) fun l => (l, ())) = (ds, ()) := by exact rfl) (hM : (headK ds [] 0 env fun e => (e, ())) = (envM, ()) := by exact rfl) (hr : Kp X → PWL P Gl B ops ((o :: rest).drop n) ((envM.set t (.bool b)).set d (.bool (b && e))) st Q := by (intro zk; refine zNp ?_; exact Kp.out zk))
  (h1 : α → PWL P Gl B ops ((o :: rest).take n) (env.set t (.bool true)) st (midOf fun env' st' => Le env' ((envM.set t (.bool true)).set d (.bool e)) ∧ StLe st' st) := by (intro hb; refine zNp ?_; (repeat' (first | refine zS ?_ | exact ⟨zLe, StLe.refl _⟩ | refine zlA1 rfl rfl rfl rfl zB rfl rfl (zNp ?_) | refine zlO1 rfl rfl rfl rfl zB rfl rfl (zNp ?_) | refine zlA2 rfl rfl rfl rfl zB rfl rfl (zNp ?_) | refine zlO2 rfl rfl rfl rfl zB rfl rfl (zNp ?_)))))
  (h0 : ¬ α → PWL P Gl B ops ((o :: rest).take n) (env.set t (.bool false)) st (midOf fun env' st' => Le env' ((envM.set t (.bool false)).set d (.bool false)) ∧ StLe st' st) := by (intro hb; refine zNp ?_; (repeat' (first | refine zS ?_ | exact ⟨zLe, StLe.refl _⟩ | refine zlA1 rfl rfl rfl rfl zB rfl rfl (zNp ?_) | refine zlO1 rfl rfl rfl rfl zB rfl rfl (zNp ?_) | refine zlA2 rfl rfl rfl rfl zB rfl rfl (zNp ?_) | refine zlO2 rfl rfl rfl rfl zB rfl rfl (zNp ?_))))) : PWL P Gl B ops (o :: rest) env st Q :=
 pl_lzA hg ht hj hp hα hds hM h1 h0 (hr ⟨y⟩)
theorem zq6 {X : Prop} (y : X) {α : Prop} {j n t d : Nat} {b e : Bool} {ds : List Nat} {envM : List PV} (hg : o.guard = some (j, false) := by exact rfl) (ht : (ops[j]?).bind (·.dst) = some t := by exact rfl) (hj : env[t]? = some (.bool b) := by exact rfl) (hp : pickAt t (o :: rest) 0 = some (n, d, false) := by exact rfl) (hα : (b = true) = α := by exact zB)
  (hds : (forceN (dstsL ((o :: rest).take n)) fun l => (l, ())) = (ds, ()) := by exact rfl) (hM : (headK ds [] 0 env fun e => (e, ())) = (envM, ()) := by exact rfl) (hr : Kp X → PWL P Gl B ops ((o :: rest).drop n) ((envM.set t (.bool b)).set d (.bool (b || e))) st Q := by (intro zk; refine zNp ?_; exact Kp.out zk))
  (h1 : ¬ α → PWL P Gl B ops ((o :: rest).take n) (env.set t (.bool false)) st (midOf fun env' st' => Le env' ((envM.set t (.bool false)).set d (.bool e)) ∧ StLe st' st) := by (intro hb; refine zNp ?_; (repeat' (first | refine zS ?_ | exact ⟨zLe, StLe.refl _⟩ | refine zlA1 rfl rfl rfl rfl zB rfl rfl (zNp ?_) | refine zlO1 rfl rfl rfl rfl zB rfl rfl (zNp ?_) | refine zlA2 rfl rfl rfl rfl zB rfl rfl (zNp ?_) | refine zlO2 rfl rfl rfl rfl zB rfl rfl (zNp ?_)))))
  (h0 : α → PWL P Gl B ops ((o :: rest).take n) (env.set t (.bool true)) st (midOf fun env' st' => Le env' ((envM.set t (.bool true)).set d (.bool true)) ∧ StLe st' st) := by (intro hb; refine zNp ?_; (repeat' (first | refine zS ?_ | exact ⟨zLe, StLe.refl _⟩ | refine zlA1 rfl rfl rfl rfl zB rfl rfl (zNp ?_) | refine zlO1 rfl rfl rfl rfl zB rfl rfl (zNp ?_) | refine zlA2 rfl rfl rfl rfl zB rfl rfl (zNp ?_) | refine zlO2 rfl rfl rfl rfl zB rfl rfl (zNp ?_))))) : PWL P Gl B ops (o :: rest) env st Q :=
 pl_lzO hg ht hj hp hα hds hM h1 h0 (hr ⟨y⟩)
end
end Go.Pw
