/-
 The operations: which pure values they yield, and that the model's operations yield values of which these are true.
-/
import Derived.Test.YtokclomhkggikaaGreatDoorJPwCore
namespace Go.Pw
open Go
inductive TK where
 | bool | int (k : IntKind) | str | ptr (e : TypeId) | sl (e esz bytes : Nat) | arr (n e esz : Nat) | strct (flds : List (Nat × Nat × Bool × TypeId))
 | map (k e : TypeId) | fn | iface | tup | other
structure TI where
 tk : TK
 size : Nat
 bytes : Nat
 zero : Option (List PV)
def szOf (P : Program) (t : TypeId) : Option Nat := (P.info? t).map (·.size)
def aggD : TypeDesc → Bool
 | .struct _ | .array _ _ => true
 | _ => false
def fldOf (P : Program) (f : Field) : Option (Nat × Nat × Bool × TypeId) :=
 match szOf P f.type, P.underlying f.type with
 | some s, some d => some (f.offset, s, aggD d, f.type)
 | _, _ => none
def fldsOf (P : Program) : List Field → Option (List (Nat × Nat × Bool × TypeId))
 | [] => some []
 | f :: fs => match fldOf P f, fldsOf P fs with
  | some x, some xs => some (x :: xs)
  | _, _ => none
def tkOf (P : Program) : TypeDesc → TK
 | .bool => .bool
 | .int k => .int k
 | .string => .str
 | .pointer e => .ptr e
 | .slice e => match P.info? e with | some i => .sl e i.size i.bytes | none => .other
 | .array n e => match szOf P e with | some s => .arr n e s | none => .other
 | .struct fs => match fldsOf P fs.toList with | some l => .strct l | none => .other
 | .map k e => .map k e
 | .func _ _ _ => .fn
 | .interface _ => .iface
 | .tuple _ => .tup
 | _ => .other
def zeroOf : Option Value → Option (List PV)
 | some v => some (v.cells.toList.map cv)
 | none => none
def tyOf (P : Program) (t : TypeId) : Option TI :=
 match P.info? t, P.underlying t with
 | some i, some d => some ⟨tkOf P d, i.size, i.bytes, zeroOf i.zero⟩
 | _, _ => none
def Tys (P : Program) (tys : List TI) : Prop := ∀ (t : Nat) ti, tys[t]? = some ti → tyOf P t = some ti
theorem tys_of (P : Program) (tys : List TI) (h : (List.range tys.length).map (tyOf P) = tys.map some) : Tys P tys := fun t ti ht => by
 have hlt : t < tys.length := (List.getElem?_eq_some_iff.1 ht).1
 have h1 : ((List.range tys.length).map (tyOf P))[t]? = (tys.map some)[t]? := by rw [h]
 rw [List.getElem?_map, List.getElem?_range hlt, List.getElem?_map, ht] at h1
 simpa using h1
theorem tyOf_spec {P : Program} {t : TypeId} {ti : TI} (h : tyOf P t = some ti) :
  ∃ i d, P.info? t = some i ∧ P.underlying t = some d ∧ ti.tk = tkOf P d ∧ ti.size = i.size ∧ ti.bytes = i.bytes ∧ ti.zero = zeroOf i.zero := by
 unfold tyOf at h
 split at h
 ·rename_i i d h1 h2
  cases h
  exact ⟨i, d, h1, h2, rfl, rfl, rfl, rfl⟩
 ·cases h
theorem fldsOf_get {P : Program} : ∀ {fs : List Field} {l : List (Nat × Nat × Bool × TypeId)}, fldsOf P fs = some l → ∀ (f : Nat) x, l[f]? = some x → ∃ fd, fs[f]? = some fd ∧ fldOf P fd = some x
 | [], l, h, f, x, hx => by simp [fldsOf] at h; subst h; simp at hx
 | fd :: fs, l, h, f, x, hx => by
  simp only [fldsOf] at h
  split at h
  ·rename_i y ys h1 h2
   cases h
   cases f with
   | zero => simp at hx; subst hx; exact ⟨fd, rfl, h1⟩
   | succ f => simp at hx; simpa using fldsOf_get h2 f x hx
  ·cases h
theorem run_info {P : Program} {t : TypeId} {i : TypeInfo} (h : P.info? t = some i) (w : World) : (typeInfo t).run P w = .ok i w := by
 simp [typeInfo, h]
theorem run_size {P : Program} {t : TypeId} {s : Nat} (h : szOf P t = some s) (w : World) : (sizeOf t).run P w = .ok s w := by
 unfold szOf at h
 cases hi : P.info? t with
 | none => simp [hi] at h
 | some i => simp [hi] at h; subst h; simp [sizeOf, run_info hi]
theorem run_aggD {P : Program} {t : TypeId} {d : TypeDesc} (h : P.underlying t = some d) (w : World) : (isAgg t).run P w = .ok (aggD d) w := by
 simp only [isAgg, Sem.run_bind, run_underlying h, Result.andThen_ok]
 cases d <;> rfl
def forceL {α : Type} : List PV → (List PV → α) → α
 | [], k => k []
 | x :: xs, k => forceL xs fun ys => k (x :: ys)
theorem forceL_eq {α : Type} : ∀ (l : List PV) (k : List PV → α), forceL l k = k l
 | [], k => rfl
 | x :: xs, k => by rw [forceL, forceL_eq xs]
def PV.force {α : Type} (p : PV) (k : PV → α) : α :=
 match p with
 | .any => k .any
 | .bool b => k (.bool b)
 | .int kd n => k (.int kd n)
 | .str s => k (.str s)
 | .nilptr => k .nilptr
 | .ptr i off => k (.ptr i off)
 | .eptr kd i e off => k (.eptr kd i e off)
 | .gptr g off => k (.gptr g off)
 | .vptr cs => forceL cs fun cs => k (.vptr cs)
 | .nilsl => k .nilsl
 | .sl xs => k (.sl xs)
 | .msl kd i off len cap => k (.msl kd i off len cap)
 | .nilmap => k .nilmap
 | .map i => k (.map i)
 | .nilfn => k .nilfn
 | .fn f cs => forceL cs fun cs => k (.fn f cs)
 | .bfn f cs => forceL cs fun cs => k (.bfn f cs)
 | .niliface => k .niliface
 | .iface t v => k (.iface t v)
 | .agg cs => forceL cs fun cs => k (.agg cs)
 | .tup cs => forceL cs fun cs => k (.tup cs)
theorem PV.force_eq {α : Type} (p : PV) (k : PV → α) : p.force k = k p := by
 cases p <;> simp [PV.force, forceL_eq]
def part? (agg : Bool) (cs : List PV) (off n : Nat) : Option PV :=
 if agg then (if off + n ≤ cs.length then some (.agg ((cs.drop off).take n)) else none) else cs[off]?
def TK.agg : TK → Bool
 | .strct _ | .arr _ _ _ => true
 | _ => false
def TK.known : TK → Bool
 | .other => false
 | _ => true
def TK.conc : TK → Bool
 | .other | .iface => false
 | _ => true
def cmpInt (op : BinOp) (a b : Int) : Option PV :=
 match op with
 | .lss => some (.bool (decide (a < b)))
 | .leq => some (.bool (decide (a ≤ b)))
 | .gtr => some (.bool (decide (a > b)))
 | .geq => some (.bool (decide (a ≥ b)))
 | .eql => some (.bool (a == b))
 | .neq => some (.bool (a != b))
 | _ => none
def cmpStr (op : BinOp) (a b : List UInt8) : Option PV :=
 match op with
 | .eql => some (.bool (a == b))
 | .neq => some (.bool (!(a == b)))
 | _ => none
def cmpOp (op : BinOp) (x y : PV) : Option PV :=
 match x, y with
 | .int k a, .int k' b => if k = k' then cmpInt op a b else none
 | .str a, .str b => cmpStr op a b
 | _, _ => none
def PV.okPart : PV → Bool
 | .any | .tup _ => false
 | _ => true
def fillP (place : Nat → Option (Nat × Nat)) : List PV → List (Nat × PV) → Option (List PV)
 | zero, [] => some zero
 | zero, (i, v) :: rest => v.force fun v => match place i with
  | none => none
  | some (off, size) => if v.okPart && v.cells.length == size && decide (off + size ≤ zero.length)
   then fillP place (zero.take off ++ v.cells ++ zero.drop (off + size)) rest else none
def unP (op : UnOp) (x : PV) : Option PV :=
 match op, x with
 | .not, .bool b => some (.bool !b)
 | _, _ => none
def mkFnP (f : Fn) (first caps : List PV) : Option PV :=
 match f, first, caps with
 | .func f, [], caps => some (.fn f caps)
 | .func f, x :: xs, [] => some (.bfn f (x :: xs))
 | _, _, _ => none
def lenP (t : Option TI) (x : PV) : Option PV :=
 match t with
 | some ⟨.arr n _ _, _, _, _⟩ => some (.int .i64 n)
 | some ⟨.str, _, _, _⟩ => match x with
  | .str s => some (.int .i64 s.length)
  | _ => none
 | some ⟨.sl _ _ _, _, _, _⟩ => match x with
  | .nilsl => some (.int .i64 0)
  | .sl xs => some (.int .i64 xs.length)
  | .msl _ _ _ n _ => some (.int .i64 n)
  | _ => none
 | _ => none
def callP (tys : List TI) (c : Callee) (args : List PV) (ts : List TypeId) : Option PV :=
 match c, args, ts with
 | .builtin .len, [x], [t] => lenP tys[t]? x
 | _, _, _ => none
def buildP (ti : Option TI) (parts : List (Nat × PV)) : Option PV :=
 match ti with
 | some ⟨.strct l, _, _, some z⟩ => match fillP (fun i => (l[i]?).map fun x => (x.1, x.2.1)) z parts with
  | some cs => some (.agg cs)
  | none => none
 | some ⟨.arr _ _ s, _, _, some z⟩ => match fillP (fun i => some (i * s, s)) z parts with
  | some cs => some (.agg cs)
  | none => none
 | _ => none
def pureOp (tys : List TI) (st : List PObj) (env : List PV) : Op → Option PV
 | .move x => some (pe env x)
 | .assign x => some (pe env x)
 | .pick c a b => match pe env c with
  | .bool true => some (pe env a)
  | .bool false => some (pe env b)
  | _ => none
 | .nilCheck x => match pe env x with
  | .ptr i off => some (.ptr i off)
  | .eptr k i e off => some (.eptr k i e off)
  | .vptr cs => some (.vptr cs)
  | .gptr g off => some (.gptr g off)
  | .fn f cs => some (.fn f cs)
  | _ => none
 | .unOp op _ x => unP op (pe env x)
 | .binOp op _ x y _ => cmpOp op (pe env x) (pe env y)
 | .fieldAddr t x f => match tys[t]? with
  | some ⟨.strct l, _, _, _⟩ => match l[f]? with
   | some (o, s, _, _) => if s = 0 then none else match pe env x with
    | .ptr i off => some (.ptr i (off + o))
    | .eptr k i e off => some (.eptr k i e (off + o))
    | .gptr g off => some (.gptr g (off + o))
    | .vptr cs => some (.vptr (cs.drop o))
    | _ => none
   | none => none
  | _ => none
 | .field t x f => match tys[t]? with
  | some ⟨.strct l, _, _, _⟩ => match l[f]? with
   | some (o, s, ag, _) => match pe env x with
    | .agg cs => part? ag cs o s
    | _ => none
   | none => none
  | _ => none
 | .load t x => match tys[t]? with
  | some ti => if ti.tk.known then match pe env x with
   | .ptr i off => match st[i]? with
    | some (.box cs) => part? ti.tk.agg cs off ti.size
    | _ => none
   | .vptr cs => part? ti.tk.agg cs 0 ti.size
   | _ => none
   else none
  | none => none
 | .extract x i => match pe env x with
  | .tup vs => vs[i]?
  | _ => none
 | .makeInterface t x => match tys[t]? with
  | some ti => if ti.tk.conc then some (.iface t (pe env x)) else none
  | none => none
 | .makeFunc f first caps => mkFnP f (first.toList.map (pe env)) (caps.toList.map (pe env))
 | .call c => callP tys c.callee (c.args.toList.map (pe env)) c.argTypes.toList
 | .build t parts => buildP tys[t]? (parts.toList.map fun p => (p.1, pe env p.2))
 | _ => none
section sound
variable {P : Program} {Gl : Glob} {B : Base} {tys : List TI} {A : Nat → Prop} {w : World} {β : List Nat} {env : List PV} {st : List PObj} {tmps : List Value}
theorem Den.bool_inv {b : Bool} {v : Value} (h : Den A w β (.bool b) v) : v = .bool b := by cases h; rfl
theorem Den.int_inv {k : IntKind} {n : Int} {v : Value} (h : Den A w β (.int k n) v) : v = .int k n := by cases h; rfl
theorem Den.str_inv {s : List UInt8} {v : Value} (h : Den A w β (.str s) v) : v = .string ⟨s.toArray⟩ := by cases h; rfl
theorem Den.agg_inv {cs : List PV} {v : Value} (h : Den A w β (.agg cs) v) : ∃ vs : List Value, v = .agg vs.toArray ∧ cs.length = vs.length ∧ ∀ (j : Nat) c v, cs[j]? = some c → vs[j]? = some v → Den A w β c v := by
 cases h with | agg _ _ vs hl hd => exact ⟨vs, rfl, hl, hd⟩
theorem Den.tup_inv {cs : List PV} {v : Value} (h : Den A w β (.tup cs) v) : ∃ vs : List Value, v = .tuple vs.toArray ∧ cs.length = vs.length ∧ ∀ (j : Nat) c v, cs[j]? = some c → vs[j]? = some v → Den A w β c v := by
 cases h with | tup _ _ vs hl hd => exact ⟨vs, rfl, hl, hd⟩
theorem Den.bfn_inv {f : FuncId} {cs : List PV} {v : Value} (h : Den A w β (.bfn f cs) v) : ∃ vs : List Value, v = .func (.func f) vs.toArray #[] ∧ cs.length = vs.length ∧ ∀ (j : Nat) c v, cs[j]? = some c → vs[j]? = some v → Den A w β c v := by
 cases h with | bfn _ _ _ vs hl hd => exact ⟨vs, rfl, hl, hd⟩
theorem Den.fn_inv {f : FuncId} {cs : List PV} {v : Value} (h : Den A w β (.fn f cs) v) : ∃ vs : List Value, v = .func (.func f) #[] vs.toArray ∧ cs.length = vs.length ∧ ∀ (j : Nat) c v, cs[j]? = some c → vs[j]? = some v → Den A w β c v := by
 cases h with | fn _ _ _ vs hl hd => exact ⟨vs, rfl, hl, hd⟩
theorem Den.ptr_inv {i off : Nat} {v : Value} (h : Den A w β (.ptr i off) v) : ∃ b, β[i]? = some b ∧ v = .pointer (some ⟨b, off, none⟩) := by
 cases h with | ptr _ _ _ b hb => exact ⟨b, hb, rfl⟩
theorem Den.eptr_inv {k i e off : Nat} {v : Value} (h : Den A w β (.eptr k i e off) v) : ∃ b, β[i]? = some b ∧ v = .pointer (some ⟨b, e * k + off, none⟩) := by
 cases h with | eptr _ _ _ _ _ b hb => exact ⟨b, hb, rfl⟩
theorem Den.gptr_inv {g off : Nat} {v : Value} (h : Den A w β (.gptr g off) v) : v = .pointer (some ⟨g, off, none⟩) := by cases h; rfl
theorem Den.msl_inv {k i off n cap : Nat} {v : Value} (h : Den A w β (.msl k i off n cap) v) (hc : cap ≠ 0) : ∃ b, β[i]? = some b ∧ v = .slice (some ⟨b, off * k, none⟩) n cap := by
 cases h with
 | msl _ _ _ _ _ _ b hb => exact ⟨b, hb, rfl⟩
 | mslnil => exact (hc rfl).elim
theorem Den.msl_any {k i off n cap : Nat} {v : Value} (h : Den A w β (.msl k i off n cap) v) : ∃ a, v = .slice a n cap := by
 cases h <;> exact ⟨_, rfl⟩
theorem Den.vptr_inv {cs : List PV} {v : Value} (h : Den A w β (.vptr cs) v) : ∃ (b off : Nat) (f : Nat → Value), v = .pointer (some ⟨b, off, none⟩) ∧ A b ∧
  (∀ (j : Nat) c, cs[j]? = some c → w.cell? ⟨b, off + j, none⟩ = some (f j)) ∧ (∀ (j : Nat) c, cs[j]? = some c → Den A w [] c (f j)) := by
 cases h with | vptr _ b off _ f h1 h2 h3 => exact ⟨b, off, f, rfl, h1, h2, h3⟩
theorem addr_add (b off n : Nat) : (⟨b, off, none⟩ : Addr).add n = ⟨b, off + n, none⟩ := by
 unfold Addr.add; split <;> simp_all
theorem Den.lift {p : PV} {v : Value} (h : Den A w [] p v) : Den A w β p v := h.mono (.refl _ _) (Pre.nil _)
theorem run_part (cs : List PV) (vs : List Value) (hl : cs.length ≤ vs.length) (hd : ∀ (j : Nat) c v, cs[j]? = some c → vs[j]? = some v → Den A w β c v)
  {t : TypeId} {d : TypeDesc} {s : Nat} (hu : P.underlying t = some d) (hs : szOf P t = some s) {off : Nat} {x : PV} (h : part? (aggD d) cs off s = some x) :
  ∃ v, (Go.part t vs.toArray off).run P w = .ok v w ∧ Den A w β x v := by
 simp only [Go.part, Sem.run_bind, run_aggD hu, Result.andThen_ok]
 unfold part? at h
 cases hag : aggD d with
 | true =>
  rw [hag] at h
  simp only [if_true] at h ⊢
  split at h
  ·rename_i hle
   cases h
   simp only [Sem.run_bind, run_size hs, Result.andThen_ok, Sem.run_pure]
   refine ⟨_, rfl, ?_⟩
   rw [List.extract_toArray]
   refine .agg _ _ _ (by simp; omega) ?_
   intro j c v hc hv
   simp only [List.getElem?_take, List.getElem?_drop] at hc
   simp only [List.extract_eq_drop_take', List.getElem?_drop, List.getElem?_take] at hv
   split at hc
   ·split at hv
    ·exact hd _ c v hc hv
    ·cases hv
   ·cases hc
  ·cases h
 | false =>
  rw [hag] at h
  simp only [Bool.false_eq_true, if_false] at h ⊢
  have hlt : off < vs.length := Nat.lt_of_lt_of_le (List.getElem?_eq_some_iff.1 h).1 hl
  have hv : vs[off]? = some vs[off] := List.getElem?_eq_getElem hlt
  refine ⟨vs[off], ?_, hd off x _ h hv⟩
  simp [hlt]
theorem run_loadVar_cells (cs : List PV) (b base : Nat) (f : Nat → Value) (hc : ∀ (j : Nat) c, cs[j]? = some c → w.cell? ⟨b, base + j, none⟩ = some (f j)) (hd : ∀ (j : Nat) c, cs[j]? = some c → Den A w β c (f j))
  {t : TypeId} {d : TypeDesc} {s : Nat} (hu : P.underlying t = some d) (hs : szOf P t = some s) {off : Nat} {x : PV} (h : part? (aggD d) cs off s = some x) :
  ∃ v, (loadVar t ⟨b, base + off, none⟩).run P w = .ok v w ∧ Den A w β x v := by
 simp only [loadVar, Sem.run_bind, run_aggD hu, Result.andThen_ok]
 unfold part? at h
 cases hag : aggD d with
 | true =>
  rw [hag] at h
  simp only [if_true] at h ⊢
  split at h
  ·rename_i hle
   cases h
   have hl := run_loadCells (P := P) w ⟨b, base + off, none⟩ s (fun j => f (off + j)) (fun j hj => by
    rw [addr_add, Nat.add_assoc]
    exact hc (off + j) _ (List.getElem?_eq_getElem (by omega)))
   simp only [Sem.run_bind, run_size hs, Result.andThen_ok, Sem.run_pure, hl]
   refine ⟨_, rfl, .agg _ _ _ (by simp; omega) ?_⟩
   intro j c v hc' hv
   simp only [List.getElem?_take, List.getElem?_drop] at hc'
   simp only [List.getElem?_map] at hv
   split at hc'
   ·rename_i hj
    rw [List.getElem?_range hj] at hv
    simp at hv
    subst hv
    exact hd _ _ hc'
   ·cases hc'
  ·cases h
 | false =>
  rw [hag] at h
  simp only [Bool.false_eq_true, if_false] at h ⊢
  refine ⟨f off, ?_, hd _ _ h⟩
  rw [run_load, hc off x h]
theorem tkOf_strct {d : TypeDesc} {l : List (Nat × Nat × Bool × TypeId)} (h : TK.strct l = tkOf P d) : ∃ fs, d = .struct fs ∧ fldsOf P fs.toList = some l := by
 cases d <;> simp only [tkOf] at h <;> first | (cases h; done) | skip
 case struct fs =>
  refine ⟨fs, rfl, ?_⟩
  split at h
  ·cases h; assumption
  ·cases h
 all_goals (split at h <;> cases h)
theorem tkOf_arr {d : TypeDesc} {n e s : Nat} (h : TK.arr n e s = tkOf P d) : d = .array n e ∧ szOf P e = some s := by
 cases d <;> simp only [tkOf] at h <;> first | (cases h; done) | skip
 case array n' e' =>
  split at h
  ·cases h; exact ⟨rfl, by assumption⟩
  ·cases h
 all_goals (split at h <;> cases h)
theorem tkOf_sl {d : TypeDesc} {e s by_ : Nat} (h : TK.sl e s by_ = tkOf P d) : d = .slice e ∧ ∃ i, P.info? e = some i ∧ i.size = s ∧ i.bytes = by_ := by
 cases d <;> simp only [tkOf] at h <;> first | (cases h; done) | skip
 case slice e' =>
  split at h
  ·cases h; exact ⟨rfl, _, by assumption, rfl, rfl⟩
  ·cases h
 all_goals (split at h <;> cases h)
theorem tkOf_str {d : TypeDesc} (h : TK.str = tkOf P d) : d = .string := by
 cases d <;> simp only [tkOf] at h <;> first | (cases h; done) | rfl | skip
 all_goals (split at h <;> cases h)
theorem tkOf_agg {d : TypeDesc} {k : TK} (h : k = tkOf P d) (ho : ∀ x, k = x → x ≠ .other) : k.agg = aggD d := by
 subst h
 cases d <;> simp only [tkOf] at ho ⊢ <;> first | rfl | skip
 all_goals (split <;> first | rfl | (rename_i h; simp [h] at ho))
theorem obj_cell {b : Nat} {vs : List Value} {T : TypeId} {fr : Nat × Nat} (h : w.heap[b]? = some (.cells vs.toArray T fr)) (j : Nat) : w.cell? ⟨b, j, none⟩ = vs[j]? := by
 simp [World.cell?, h]
theorem cells_den {p : PV} {v : Value} (h : Den A w β p v) (ho : p.okPart = true) :
  ∃ vs : List Value, v.cells = vs.toArray ∧ p.cells.length = vs.length ∧ ∀ (j : Nat) c u, p.cells[j]? = some c → vs[j]? = some u → Den A w β c u := by
 have one : ∀ v, v.cells = #[v] → p.cells = [p] → Den A w β p v →
   ∃ vs : List Value, v.cells = vs.toArray ∧ p.cells.length = vs.length ∧ ∀ (j : Nat) c u, p.cells[j]? = some c → vs[j]? = some u → Den A w β c u := by
  intro v hv hp hd
  refine ⟨[v], hv, by rw [hp]; rfl, ?_⟩
  intro j c u hc hu
  rw [hp] at hc
  cases j with
  | zero => simp at hc hu; subst hc hu; exact hd
  | succ j => simp at hc
 cases h with
 | any => simp [PV.okPart] at ho
 | tup => simp [PV.okPart] at ho
 | agg _ cs vs hl hd => exact ⟨vs, rfl, hl, hd⟩
 | bool => exact one _ rfl rfl (.bool ..)
 | int => exact one _ rfl rfl (.int ..)
 | str => exact one _ rfl rfl (.str ..)
 | nilptr => exact one _ rfl rfl (.nilptr ..)
 | ptr _ _ _ _ h1 => exact one _ rfl rfl (.ptr _ _ _ _ h1)
 | eptr _ _ _ _ _ _ h1 => exact one _ rfl rfl (.eptr _ _ _ _ _ _ h1)
 | gptr => exact one _ rfl rfl (.gptr ..)
 | vptr _ _ _ _ f h1 h2 h3 => exact one _ rfl rfl (.vptr _ _ _ _ f h1 h2 h3)
 | nilsl => exact one _ rfl rfl (.nilsl ..)
 | slnil => exact one _ rfl rfl (.slnil ..)
 | sl _ k _ a cap f h1 h2 h3 h4 h5 h6 => exact one _ rfl rfl (.sl _ k _ a cap f h1 h2 h3 h4 h5 h6)
 | msl _ _ _ _ _ _ _ h1 => exact one _ rfl rfl (.msl _ _ _ _ _ _ _ h1)
 | mslnil => exact one _ rfl rfl (.mslnil ..)
 | nilmap => exact one _ rfl rfl (.nilmap ..)
 | map _ _ _ h1 => exact one _ rfl rfl (.map _ _ _ h1)
 | nilfn => exact one _ rfl rfl (.nilfn ..)
 | fn _ _ _ _ h1 h2 => exact one _ rfl rfl (.fn _ _ _ _ h1 h2)
 | bfn _ _ _ _ h1 h2 => exact one _ rfl rfl (.bfn _ _ _ _ h1 h2)
 | niliface => exact one _ rfl rfl (.niliface ..)
 | iface _ _ _ _ h1 => exact one _ rfl rfl (.iface _ _ _ _ h1)
theorem fold_set (off : Nat) : ∀ (vs : List Value) (n : Nat) (cells : List Value), off + n + vs.length ≤ cells.length →
  (vs.zipIdx n).foldl (fun (cs : Array Value) (x : Value × Nat) => cs.setIfInBounds (off + x.2) x.1) cells.toArray = (cells.take (off + n) ++ vs ++ cells.drop (off + n + vs.length)).toArray
 | [], n, cells, h => by simp
 | v :: vs, n, cells, h => by
  simp only [List.length_cons] at h
  simp only [List.zipIdx_cons, List.foldl_cons, List.setIfInBounds_toArray]
  rw [fold_set off vs (n + 1) (cells.set (off + n) v) (by simp; omega)]
  congr 1
  rw [List.drop_set_of_lt (by omega), ← Nat.add_assoc, List.take_succ_eq_append_getElem (by simp; omega), List.take_set_of_le (Nat.le_refl _)]
  simp [Nat.add_assoc, Nat.add_comm 1]
theorem splice_den {zero cs : List PV} {zs us : List Value} {off : Nat} (hz : zero.length = zs.length) (hc : cs.length = us.length) (hle : off + cs.length ≤ zero.length)
  (h1 : ∀ (j : Nat) c v, zero[j]? = some c → zs[j]? = some v → Den A w β c v) (h2 : ∀ (j : Nat) c v, cs[j]? = some c → us[j]? = some v → Den A w β c v) :
  ∀ (j : Nat) c v, (zero.take off ++ cs ++ zero.drop (off + cs.length))[j]? = some c → (zs.take off ++ us ++ zs.drop (off + us.length))[j]? = some v → Den A w β c v := by
 intro j c v hcj hvj
 by_cases hj : j < off
 ·rw [List.append_assoc, List.getElem?_append_left (by simp; omega), List.getElem?_take, if_pos hj] at hcj
  rw [List.append_assoc, List.getElem?_append_left (by simp; omega), List.getElem?_take, if_pos hj] at hvj
  exact h1 j c v hcj hvj
 ·by_cases hj2 : j < off + cs.length
  ·rw [List.getElem?_append_left (by simp; omega), List.getElem?_append_right (by simp; omega)] at hcj
   rw [List.getElem?_append_left (by simp; omega), List.getElem?_append_right (by simp; omega)] at hvj
   simp only [List.length_take, Nat.min_eq_left (show off ≤ zero.length by omega)] at hcj
   simp only [List.length_take, Nat.min_eq_left (show off ≤ zs.length by omega)] at hvj
   exact h2 _ c v hcj hvj
  ·rw [List.getElem?_append_right (by simp; omega), List.getElem?_drop] at hcj
   rw [List.getElem?_append_right (by simp; omega), List.getElem?_drop] at hvj
   simp only [List.length_append, List.length_take, Nat.min_eq_left (show off ≤ zero.length by omega)] at hcj
   simp only [List.length_append, List.length_take, Nat.min_eq_left (show off ≤ zs.length by omega)] at hvj
   rw [show off + cs.length + (j - (off + cs.length)) = j by omega] at hcj
   rw [show off + us.length + (j - (off + us.length)) = j by omega] at hvj
   exact h1 j c v hcj hvj
theorem fill_sound (place : Nat → Option (Nat × Nat)) : ∀ (ps : List (Nat × PV)) (qs : List (Nat × Value)) (zero : List PV) (zs : List Value) (cs : List PV),
  ps.length = qs.length → (∀ (j : Nat) p q, ps[j]? = some p → qs[j]? = some q → p.1 = q.1 ∧ Den A w β p.2 q.2) →
  zero.length = zs.length → (∀ (j : Nat) c v, zero[j]? = some c → zs[j]? = some v → Den A w β c v) → fillP place zero ps = some cs →
  ∃ vs : List Value, Instr.fill place zs.toArray qs = some vs.toArray ∧ cs.length = vs.length ∧ ∀ (j : Nat) c v, cs[j]? = some c → vs[j]? = some v → Den A w β c v
 | [], [], zero, zs, cs, _, _, hz, hd, h => by
  simp only [fillP] at h; cases h; exact ⟨zs, rfl, hz, hd⟩
 | (i, p) :: ps, (i', v) :: qs, zero, zs, cs, hl, hpq, hz, hd, h => by
  obtain ⟨hi, hpv⟩ := hpq 0 _ _ rfl rfl
  simp only at hi hpv
  subst hi
  simp only [fillP, PV.force_eq] at h
  split at h
  ·cases h
  ·rename_i off size hpl
   split at h
   ·rename_i hc
    simp only [Bool.and_eq_true, beq_iff_eq, decide_eq_true_eq] at hc
    obtain ⟨⟨ho, hs⟩, hle⟩ := hc
    obtain ⟨us, hu1, hu2, hu3⟩ := cells_den hpv ho
    subst hs
    obtain ⟨vs, hv1, hv2, hv3⟩ := fill_sound place ps qs _ (zs.take off ++ us ++ zs.drop (off + us.length)) cs (by simpa using hl) (fun j p q hp hq => hpq (j + 1) p q (by simpa using hp) (by simpa using hq))
     (by simp; omega) (splice_den hz hu2 hle hd hu3) h
    refine ⟨vs, ?_, hv2, hv3⟩
    unfold Instr.fill
    simp only [hpl]
    rw [if_neg (by simp [hu1]; omega), ← hv1, hu1]
    congr 1
    have := fold_set off us 0 zs (by omega)
    rw [← Array.foldl_toList]
    simpa using this
   ·cases h
 | [], _ :: _, _, _, _, hl, _, _, _, _ => by simp at hl
 | _ :: _, [], _, _, _, hl, _, _, _, _ => by simp at hl
theorem zero_den {v : Value} (j : Nat) (c : PV) (u : Value) (hc : (v.cells.toList.map cv)[j]? = some c) (hu : v.cells.toList[j]? = some u) : Den A w β c u := by
 simp only [List.getElem?_map, hu] at hc
 cases hc
 exact den_cv ..
theorem run_mapM_flds {fs : List Field} {l : List (Nat × Nat × Bool × TypeId)} (h : fldsOf P fs = some l) (w : World) :
  (fs.mapM (fun f => do pure (f.offset, ← sizeOf f.type) : Field → Sem (Nat × Nat))).run P w = .ok (l.map fun x => (x.1, x.2.1)) w := by
 induction fs generalizing l with
 | nil => simp [fldsOf] at h; subst h; simp
 | cons f fs ih =>
  simp only [fldsOf] at h
  split at h
  ·rename_i y ys h1 h2
   cases h
   unfold fldOf at h1
   split at h1
   ·rename_i s d hs hd
    cases h1
    simp only [List.mapM_cons, Sem.run_bind, run_size hs, Result.andThen_ok, Sem.run_pure, ih h2, List.map_cons]
   ·cases h1
  ·cases h
theorem pureOp_sound (hT : Tys P tys) {o : Oper} {x : PV} (h : pureOp tys st env o.op = some x) (hi : Inv Gl B A w β st) (he : EnvRel A w β env tmps) :
  ∃ v, (execOp (⟨tmps.toArray, []⟩ : Act).eval o).run P w = .ok (.value v) w ∧ Den A w β x v := by
 obtain ⟨dst, op, type, pos, after, guard⟩ := o
 have ev := fun y => he.eval [] y
 generalize (⟨tmps.toArray, []⟩ : Act).eval = ρ at ev
 cases op <;> simp only [pureOp] at h <;> first | (cases h; done) | skip
 case move y => cases h; exact ⟨ρ y, by simp [execOp], ev y⟩
 case assign y => cases h; exact ⟨ρ y, by simp [execOp], ev y⟩
 case pick c a b =>
  have hc := ev c
  split at h
  ·rename_i hb; rw [hb] at hc; cases h; exact ⟨ρ a, by simp [execOp, hc.bool_inv, asBool], ev a⟩
  ·rename_i hb; rw [hb] at hc; cases h; exact ⟨ρ b, by simp [execOp, hc.bool_inv, asBool], ev b⟩
  ·cases h
 case nilCheck y =>
  have hy := ev y
  split at h
  ·rename_i hb; rw [hb] at hy; cases h; obtain ⟨b, hb, hv⟩ := hy.ptr_inv; exact ⟨_, by simp only [execOp, hv, Sem.run_pure], .ptr _ _ _ _ hb⟩
  ·rename_i hb; rw [hb] at hy; cases h; obtain ⟨b, hb, hv⟩ := hy.eptr_inv; exact ⟨_, by simp only [execOp, hv, Sem.run_pure], .eptr _ _ _ _ _ _ hb⟩
  ·rename_i hb; rw [hb] at hy; cases h; obtain ⟨b, off, f, hv, _⟩ := hy.vptr_inv; rw [hv] at hy; exact ⟨_, by simp only [execOp, hv, Sem.run_pure], hy⟩
  ·rename_i hb; rw [hb] at hy; cases h; have hv := hy.gptr_inv; rw [hv] at hy; exact ⟨_, by simp only [execOp, hv, Sem.run_pure], hy⟩
  ·rename_i hb; rw [hb] at hy; cases h; obtain ⟨vs, hv, _⟩ := hy.fn_inv; rw [hv] at hy; exact ⟨_, by simp only [execOp, hv, Sem.run_pure], hy⟩
  ·cases h
 case binOp op T a b T' =>
  have ha := ev a
  have hb := ev b
  unfold cmpOp at h
  split at h
  ·rename_i k x1 k' x2 h1 h2
   rw [h1] at ha; rw [h2] at hb
   split at h
   ·rename_i hk; subst hk
    unfold cmpInt at h
    simp only [execOp, Sem.run_bind, ha.int_inv, hb.int_inv]
    split at h <;> cases h <;> exact ⟨_, by simp [eqGuard, binOp, Op.intCmp], .bool ..⟩
   ·cases h
  ·rename_i x1 x2 h1 h2
   rw [h1] at ha; rw [h2] at hb
   unfold cmpStr at h
   simp only [execOp, Sem.run_bind, ha.str_inv, hb.str_inv]
   split at h <;> cases h <;> exact ⟨_, by simp [eqGuard, binOp, Op.stringOp, ByteArray.toList_eq], .bool ..⟩
  ·cases h
 case unOp op T a =>
  have ha := ev a
  unfold unP at h
  split at h
  ·rename_i b hb; rw [hb] at ha; cases h
   exact ⟨_, by simp only [execOp, ha.bool_inv, Op.unary, Sem.run_bind, Sem.run_pure, Result.andThen_ok], .bool ..⟩
  ·cases h
 case fieldAddr T a f =>
  have ha := ev a
  split at h
  ·rename_i l s1 s2 s3 ht
   obtain ⟨i, d, hi1, hu, htk, _⟩ := tyOf_spec (hT _ _ ht)
   obtain ⟨fs, rfl, hfs⟩ := tkOf_strct htk
   split at h
   ·rename_i o s ag ft hf
    obtain ⟨fd, hfd, hfo⟩ := fldsOf_get hfs _ _ hf
    have hfd' : fs[f]? = some fd := by simpa using hfd
    unfold fldOf at hfo
    split at hfo
    ·rename_i s' d' hs' hd'
     cases hfo
     split at h
     ·cases h
     ·rename_i hs0
      have key : ∀ a0 : Addr, ρ a = .pointer (some a0) → (execOp ρ ⟨dst, .fieldAddr T a f, type, pos, after, guard⟩).run P w = .ok (.value (.pointer (some (a0.add fd.offset)))) w := by
       intro a0 h0
       simp only [execOp, Instr.fieldAt, Sem.run_bind, run_underlying hu, Result.andThen_ok, hfd', h0, Instr.sureAddr, Sem.run_pure, fieldPlace, run_size hs', if_neg hs0]
      split at h
      ·rename_i hb; rw [hb] at ha; cases h; obtain ⟨b, hb, hv⟩ := ha.ptr_inv
       exact ⟨_, key _ hv, by rw [addr_add]; exact .ptr _ _ _ _ hb⟩
      ·rename_i hb; rw [hb] at ha; cases h; obtain ⟨b, hb, hv⟩ := ha.eptr_inv
       exact ⟨_, key _ hv, by rw [addr_add, Nat.add_assoc]; exact .eptr _ _ _ _ _ _ hb⟩
      ·rename_i hb; rw [hb] at ha; cases h
       exact ⟨_, key _ ha.gptr_inv, by rw [addr_add]; exact .gptr _ _ _⟩
      ·rename_i hb; rw [hb] at ha; cases h; obtain ⟨b, off, f', hv, h1, h2, h3⟩ := ha.vptr_inv
       refine ⟨_, key _ hv, ?_⟩
       rw [addr_add]
       refine .vptr _ _ _ _ (fun j => f' (fd.offset + j)) h1 (fun j c hc => ?_) (fun j c hc => ?_)
       ·rw [Nat.add_assoc]; exact h2 _ c (by simpa using hc)
       ·exact h3 _ c (by simpa using hc)
      ·cases h
    ·cases hfo
   ·cases h
  ·cases h
 case field T a f =>
  have ha := ev a
  split at h
  ·rename_i l s1 s2 s3 ht
   obtain ⟨i, d, hi1, hu, htk, _⟩ := tyOf_spec (hT _ _ ht)
   obtain ⟨fs, rfl, hfs⟩ := tkOf_strct htk
   split at h
   ·rename_i o s ag ft hf
    obtain ⟨fd, hfd, hfo⟩ := fldsOf_get hfs _ _ hf
    have hfd' : fs[f]? = some fd := by simpa using hfd
    unfold fldOf at hfo
    split at hfo
    ·rename_i s' d' hs' hd'
     cases hfo
     split at h
     ·rename_i cs hb; rw [hb] at ha
      obtain ⟨vs, hv, hl, hd⟩ := ha.agg_inv
      obtain ⟨v, hr, hx⟩ := run_part (P := P) cs vs (Nat.le_of_eq hl) hd hd' hs' h
      exact ⟨v, by simp only [execOp, Instr.field, Sem.run_bind, run_underlying hu, Result.andThen_ok, hfd', hv, asAgg, Sem.run_pure, hr], hx⟩
     ·cases h
    ·cases hfo
   ·cases h
  ·cases h
 case load T a =>
  have ha := ev a
  split at h
  ·rename_i ti ht
   obtain ⟨i, d, hi1, hu, htk, hsz, _⟩ := tyOf_spec (hT _ _ ht)
   split at h
   ·rename_i hkn
    have hag : ti.tk.agg = aggD d := tkOf_agg htk (fun x hx => by subst hx; intro h0; rw [h0] at hkn; cases hkn)
    have hs : szOf P T = some ti.size := by simp [szOf, hi1, hsz]
    rw [hag] at h
    split at h
    ·rename_i i off hb; rw [hb] at ha
     obtain ⟨b, hb, hv⟩ := ha.ptr_inv
     split at h
     ·rename_i cs hst
      obtain ⟨vs, T', fr, h1, h2, h3, h4⟩ := hi.obj _ _ _ hb hst
      obtain ⟨v, hr, hx⟩ := run_loadVar_cells (P := P) (w := w) (A := A) (β := β) cs b 0 (fun j => vs.getD j undef) (fun j c hc => by
        have hlt : j < vs.length := by rw [h2]; exact (List.getElem?_eq_some_iff.1 hc).1
        rw [Nat.zero_add, obj_cell h1]; simp [List.getElem?_eq_getElem hlt])
       (fun j c hc => by
        have hlt : j < vs.length := by rw [h2]; exact (List.getElem?_eq_some_iff.1 hc).1
        exact h4 j c _ hc (by simp [List.getElem?_eq_getElem hlt])) hu hs h
      rw [Nat.zero_add] at hr
      exact ⟨v, by simp only [execOp, Instr.loadAt, Sem.run_bind, hv, Instr.sureAddr, Sem.run_pure, Result.andThen_ok, hr], hx⟩
     ·cases h
    ·rename_i cs hb; rw [hb] at ha
     obtain ⟨b, off, f', hv, h1, h2, h3⟩ := ha.vptr_inv
     obtain ⟨v, hr, hx⟩ := run_loadVar_cells (P := P) (w := w) (A := A) (β := β) cs b off f' h2 (fun j c hc => (h3 j c hc).lift) hu hs h
     rw [Nat.add_zero] at hr
     exact ⟨v, by simp only [execOp, Instr.loadAt, Sem.run_bind, hv, Instr.sureAddr, Sem.run_pure, Result.andThen_ok, hr], hx⟩
    ·cases h
   ·cases h
  ·cases h
 case extract a i =>
  have ha := ev a
  split at h
  ·rename_i vs hb; rw [hb] at ha
   obtain ⟨us, hv, hl, hd⟩ := ha.tup_inv
   have hlt : i < us.length := by rw [← hl]; exact (List.getElem?_eq_some_iff.1 h).1
   have hu : us[i]? = some us[i] := List.getElem?_eq_getElem hlt
   exact ⟨us[i], by simp [execOp, Instr.extract, hv, hlt], hd i x _ h hu⟩
  ·cases h
 case makeInterface T a =>
  split at h
  ·rename_i ti ht
   obtain ⟨i, d, hi1, hu, htk, _⟩ := tyOf_spec (hT _ _ ht)
   split at h
   ·rename_i hcn
    cases h
    refine ⟨_, ?_, .iface _ _ _ _ (ev a)⟩
    simp only [execOp, Instr.makeInterface, Sem.run_bind, run_underlying hu, Result.andThen_ok]
    cases d <;> first | rfl | (rw [htk] at hcn; simp [tkOf, TK.conc] at hcn)
   ·cases h
  ·cases h
 case makeFunc f first caps =>
  have lst : ∀ (l : Array Operand), (l.toList.map (pe env)).length = (l.toList.map ρ).length ∧ ∀ (j : Nat) c v, (l.toList.map (pe env))[j]? = some c → (l.toList.map ρ)[j]? = some v → Den A w β c v := fun l => ⟨by simp, fun j c v hc hv => by
   simp only [List.getElem?_map] at hc hv
   cases hx : l.toList[j]? with
   | none => rw [hx] at hc; cases hc
   | some y => rw [hx] at hc hv; cases hc; cases hv; exact ev y⟩
  have e : ∀ l : Array Operand, l.map ρ = (l.toList.map ρ).toArray := fun l => Array.ext' (by simp)
  unfold mkFnP at h
  split at h
  ·rename_i f' hf'
   cases h
   have hf : first = #[] := by simpa using hf'
   subst hf
   obtain ⟨g1, g2⟩ := lst caps
   refine ⟨.func (.func f') #[] (caps.toList.map ρ).toArray, ?_, .fn _ _ _ _ g1 g2⟩
   simp only [execOp, Instr.makeFunc, Sem.run_bind, Sem.run_pure, Result.andThen_ok]
   rw [e caps]
   simp
  ·rename_i f' x xs hxs hcs
   cases h
   have hc0 : caps = #[] := by simpa using hcs
   subst hc0
   obtain ⟨g1, g2⟩ := lst first
   rw [hxs] at g1 g2
   refine ⟨.func (.func f') (first.toList.map ρ).toArray #[], ?_, .bfn _ _ _ _ g1 g2⟩
   simp only [execOp, Instr.makeFunc, Sem.run_bind, Sem.run_pure, Result.andThen_ok]
   rw [e first]
   simp
  ·cases h
 case call c =>
  obtain ⟨callee, args, ats⟩ := c
  unfold callP at h
  simp only at h
  split at h
  ·rename_i x0 t hargs hts
   obtain ⟨l⟩ := args
   obtain ⟨l'⟩ := ats
   simp only at hargs hts
   match l, hargs with
   | [y], hy =>
    simp only [List.map_cons, List.map_nil, List.cons.injEq, and_true] at hy
    subst hts
    have ha := ev y
    rw [hy] at ha
    have key : ∀ v, (Builtin.len_ #[t] type #[ρ y]).run P w = .ok v w → (execOp ρ ⟨dst, .call ⟨.builtin .len, [y].toArray, [t].toArray⟩, type, pos, after, guard⟩).run P w = .ok (.value v) w := by
     intro v hv
     simp only [execOp, Go.resolve, Sem.run_bind, Sem.run_pure, Result.andThen_ok, invoke, builtin]
     simp [hv]
    unfold lenP at h
    split at h
    ·rename_i n e s' s1 s2 s3 ht
     cases h
     obtain ⟨i, d, hi1, hu, htk, _⟩ := tyOf_spec (hT _ _ ht)
     obtain ⟨rfl, _⟩ := tkOf_arr htk
     refine ⟨_, key _ ?_, .int ..⟩
     simp [Builtin.len_, run_underlying hu]; rfl
    ·rename_i s1 s2 s3 ht
     obtain ⟨i, d, hi1, hu, htk, _⟩ := tyOf_spec (hT _ _ ht)
     have := tkOf_str htk
     subst this
     split at h
     ·cases h
      refine ⟨_, key _ ?_, .int ..⟩
      rw [ha.str_inv]; simp only [Builtin.len_, List.getElem?_toArray, List.getElem?_cons_zero, Sem.run_bind, run_underlying hu, Result.andThen_ok]; rfl
     ·cases h
    ·rename_i e es bs s1 s2 s3 ht
     obtain ⟨i, d, hi1, hu, htk, _⟩ := tyOf_spec (hT _ _ ht)
     obtain ⟨rfl, _⟩ := tkOf_sl htk
     split at h
     ·cases h
      refine ⟨_, key _ ?_, .int ..⟩
      generalize ρ y = v at ha
      cases ha
      simp [Builtin.len_, run_underlying hu, goInt]
     ·cases h
      refine ⟨_, key _ ?_, .int ..⟩
      generalize ρ y = v at ha
      cases ha with
      | slnil => simp [Builtin.len_, run_underlying hu, goInt]
      | sl _ k _ a cap f => simp [Builtin.len_, run_underlying hu, goInt]
     ·cases h
      refine ⟨_, key _ ?_, .int ..⟩
      obtain ⟨b, hv⟩ := ha.msl_any
      simp [Builtin.len_, run_underlying hu, goInt, hv]
     ·cases h
    ·cases h
  ·cases h
 case build T parts =>
  have hq : ∀ (j : Nat) (p : Nat × PV) (q : Nat × Value), (parts.toList.map fun p => (p.1, pe env p.2))[j]? = some p → (parts.toList.map fun p => (p.1, ρ p.2))[j]? = some q → p.1 = q.1 ∧ Den A w β p.2 q.2 := by
   intro j p q hp hq
   simp only [List.getElem?_map] at hp hq
   cases hx : parts.toList[j]? with
   | none => rw [hx] at hp; cases hp
   | some y => rw [hx] at hp hq; cases hp; cases hq; exact ⟨rfl, ev _⟩
  have run : ∀ (zv : Value) (i : TypeInfo), P.info? T = some i → i.zero = some zv → (zeroValue T).run P w = .ok zv w := by
   intro zv i h1 h2
   simp [zeroValue, run_info h1, h2]
  have hmap : (parts.map fun x => (x.1, ρ x.2)).toList = parts.toList.map fun p => (p.1, ρ p.2) := by simp
  unfold buildP at h
  split at h
  ·rename_i l s1 s2 z ht
   obtain ⟨i, d, hi1, hu, htk, hsz, hby, hz⟩ := tyOf_spec (hT _ _ ht)
   obtain ⟨fs, rfl, hfs⟩ := tkOf_strct htk
   simp only at hz
   split at h
   ·rename_i cs hf
    cases h
    cases hzv : i.zero with
    | none => rw [hzv] at hz; cases hz
    | some zv =>
     rw [hzv] at hz
     cases hz
     obtain ⟨vs, hv1, hv2, hv3⟩ := fill_sound (A := A) (w := w) (β := β) _ _ _ _ zv.cells.toList cs (by simp) hq (by simp) (fun j c u h1 h2 => zero_den j c u h1 h2) hf
     refine ⟨.agg vs.toArray, ?_, .agg _ _ _ hv2 hv3⟩
     have hm := run_mapM_flds hfs w
     have hm' : (fs.mapM (fun f => do pure (f.offset, ← sizeOf f.type) : Field → Sem (Nat × Nat))).run P w = .ok (l.map fun x => (x.1, x.2.1)).toArray w := by
      rw [Array.mapM_eq_mapM_toList, Sem.run_map, hm]; rfl
     simp only [execOp, Instr.build, Sem.run_bind, run zv i hi1 hzv, run_underlying hu, Result.andThen_ok, hm', hmap]
     have hpl : (fun x : Nat => (l.map fun x => (x.1, x.2.1)).toArray[x]?) = fun i => (l[i]?).map fun x => (x.1, x.2.1) := by
      funext x; simp
     rw [hpl]
     simp only [Array.toArray_toList] at hv1
     rw [hv1]
     rfl
   ·cases h
  ·rename_i n e s s1 s2 z ht
   obtain ⟨i, d, hi1, hu, htk, hsz, hby, hz⟩ := tyOf_spec (hT _ _ ht)
   obtain ⟨rfl, hse⟩ := tkOf_arr htk
   simp only at hz
   split at h
   ·rename_i cs hf
    cases h
    cases hzv : i.zero with
    | none => rw [hzv] at hz; cases hz
    | some zv =>
     rw [hzv] at hz
     cases hz
     obtain ⟨vs, hv1, hv2, hv3⟩ := fill_sound (A := A) (w := w) (β := β) _ _ _ _ zv.cells.toList cs (by simp) hq (by simp) (fun j c u h1 h2 => zero_den j c u h1 h2) hf
     refine ⟨.agg vs.toArray, ?_, .agg _ _ _ hv2 hv3⟩
     simp only [execOp, Instr.build, Sem.run_bind, run zv i hi1 hzv, run_underlying hu, Result.andThen_ok, run_size hse, hmap]
     simp only [Array.toArray_toList] at hv1
     rw [hv1]
     rfl
   ·cases h
  ·cases h
end sound
end Go.Pw
