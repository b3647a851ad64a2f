/-
 Regions: one operation after another, over pure states; the operations that change the store.
 Operations that make and write owned objects, index, slice and reckon.
-/
import Derived.Test.YtokclomhkggikaaGreatDoorJPwOps
namespace Go.Pw
open Go
def OpOut (Gl : Glob) (B : Base) (dst : Option Tmp) (tmps : List Value) (A : Nat → Prop) (w : World) (β : List Nat) (K : PV → List PObj → Prop) (a' : Act) (w' : World) : Prop :=
 ∃ v x st' A' β', a' = (⟨tmps.toArray, []⟩ : Act).put dst v ∧ K x st' ∧ Den A' w' β' x v ∧ Inv Gl B A' w' β' st' ∧ Ext A w A' w' ∧ Pre β β'
def OpP (P : Program) (Gl : Glob) (B : Base) (o : Oper) (env : List PV) (st : List PObj) (K : PV → List PObj → Prop) : Prop :=
 ∀ A w β tmps Q, Inv Gl B A w β st → EnvRel A w β env tmps → o.wp P ⟨tmps.toArray, []⟩ w (OpOut Gl B o.dst tmps A w β K) Q
def PWL (P : Program) (Gl : Glob) (B : Base) (ops : Array Oper) (rest : List Oper) (env : List PV) (st : List PObj) (Q : Post) : Prop :=
 ∀ A w β tmps, Inv Gl B A w β st → EnvRel A w β env tmps → wpList P ops (Real Gl B Q) rest ⟨tmps.toArray, []⟩ w
def putE (env : List PV) (dst : Option Tmp) (x : PV) : List PV :=
 match dst with
 | some d => env.set d x
 | none => env
def putV (tmps : List Value) (dst : Option Tmp) (v : Value) : List Value :=
 match dst with
 | some d => tmps.set d v
 | none => tmps
section rules
variable {P : Program} {Gl : Glob} {B : Base} {tys : List TI} {env : List PV} {st : List PObj} {Q : Post} {ops : Array Oper} {rest : List Oper} {o : Oper}
theorem put_tmps (tmps : List Value) (dst : Option Tmp) (v : Value) : (⟨tmps.toArray, []⟩ : Act).put dst v = ⟨(putV tmps dst v).toArray, []⟩ := by
 cases dst <;> simp [Act.put, putV]
theorem EnvRel.put {A : Nat → Prop} {w : World} {β : List Nat} {tmps : List Value} (h : EnvRel A w β env tmps) (dst : Option Tmp) {x : PV} {v : Value} (hx : Den A w β x v) :
  EnvRel A w β (putE env dst x) (putV tmps dst v) := by
 cases dst with
 | none => exact h
 | some d =>
  refine ⟨by simp [putE, putV, h.1], fun i p u hp hu => ?_⟩
  simp only [putE] at hp
  simp only [putV] at hu
  rw [List.getElem?_set] at hp hu
  split at hp
  ·rename_i hd
   subst hd
   split at hp
   ·rw [if_pos rfl] at hu
    split at hu
    ·cases hp; cases hu; exact hx
    ·cases hu
   ·cases hp
  ·rename_i hd
   rw [if_neg hd] at hu
   exact h.2 i p u hp hu
theorem pw_region {id : Nat} {l : List Oper} (h : PWL P Gl B l.toArray l env st Q) : PW P Gl B (.region id l.toArray false) env st Q :=
 fun A w β tmps hi he => wp_region_lit (h A w β tmps hi he)
theorem pl_nil (h : Q .normal env st) : PWL P Gl B ops [] env st Q :=
 fun A _w β tmps hi he => wpList_nil ⟨env, st, A, β, tmps, rfl, h, hi, he⟩
theorem pl_run (hw : ∀ tmps : List Value, (∀ A w β, EnvRel A w β env tmps → Region.wanted o (yielded ops tmps.toArray) = true))
  (h : OpP P Gl B o env st fun x st' => PWL P Gl B ops rest (putE env o.dst x) st' Q) : PWL P Gl B ops (o :: rest) env st Q := fun A w β tmps hi he => by
 unfold wpList
 rw [if_pos (hw tmps A w β he)]
 refine .inl (Oper.wp_mono ?_ (h A w β tmps _ hi he))
 rintro a' w' ⟨v, x, st', A', β', rfl, hK, hd, hi', hx, hβ⟩
 rw [put_tmps]
 exact hK A' w' β' _ hi' ((he.mono hx hβ).put o.dst hd)
theorem pl_op (hg : o.guard = none) (h : OpP P Gl B o env st fun x st' => PWL P Gl B ops rest (putE env o.dst x) st' Q) : PWL P Gl B ops (o :: rest) env st Q :=
 pl_run (fun tmps _ _ _ _ => by simp [Region.wanted, hg]) h
def yieldE (ops : Array Oper) (env : List PV) (j : Nat) : Option Bool :=
 match ((ops[j]?).bind (·.dst)).bind (env[·]?) with
 | some (.bool b) => some b
 | _ => none
theorem yield_of {A : Nat → Prop} {w : World} {β : List Nat} {tmps : List Value} (he : EnvRel A w β env tmps) {j : Nat} {b : Bool} (h : yieldE ops env j = some b) : yielded ops tmps.toArray j = some b := by
 unfold yieldE at h
 unfold yielded
 cases hd : (ops[j]?).bind (·.dst) with
 | none => simp [hd] at h
 | some d =>
  simp only [hd, Option.bind_some] at h ⊢
  cases hp : env[d]? with
  | none => simp [hp] at h
  | some p =>
   rw [hp] at h
   have hlt : d < tmps.length := by rw [← he.1]; exact (List.getElem?_eq_some_iff.1 hp).1
   have hv : tmps[d]? = some tmps[d] := List.getElem?_eq_getElem hlt
   have hden := he.2 d p _ hp hv
   cases p <;> simp only at h <;> first | (cases h; done) | skip
   cases h
   simp only [List.getElem?_toArray, hv, hden.bool_inv]
theorem den_undef (A : Nat → Prop) (w : World) (β : List Nat) : Den A w β (.tup []) undef := .tup β [] [] rfl (by intro j c v h; simp at h)
def noYield (ops : Array Oper) (env : List PV) (j : Nat) : Bool :=
 match ((ops[j]?).bind (·.dst)).bind (env[·]?) with
 | some (.tup []) => true
 | _ => false
theorem noYield_of {A : Nat → Prop} {w : World} {β : List Nat} {tmps : List Value} (he : EnvRel A w β env tmps) {j : Nat} (h : noYield ops env j = true) : yielded ops tmps.toArray j = none := by
 unfold noYield at h
 unfold yielded
 cases hd : (ops[j]?).bind (·.dst) with
 | none => simp [hd] at h
 | some d =>
  simp only [hd, Option.bind_some] at h ⊢
  cases hp : env[d]? with
  | none => simp [hp] at h
  | some p =>
   rw [hp] at h
   have hlt : d < tmps.length := by rw [← he.1]; exact (List.getElem?_eq_some_iff.1 hp).1
   have hv : tmps[d]? = some tmps[d] := List.getElem?_eq_getElem hlt
   have hden := he.2 d p _ hp hv
   simp only [List.getElem?_toArray, hv]
   split at h
   ·rename_i heq
    cases heq
    generalize tmps[d] = v at hden
    cases hden
    rfl
   ·cases h
theorem pl_on {j : Nat} {want : Bool} (hg : o.guard = some (j, want)) (hy : yieldE ops env j = some want) (h : OpP P Gl B o env st fun x st' => PWL P Gl B ops rest (putE env o.dst x) st' Q) :
  PWL P Gl B ops (o :: rest) env st Q :=
 pl_run (fun tmps _ _ _ he => by simp [Region.wanted, hg, yield_of he hy]) h
theorem pl_off {j : Nat} {want b : Bool} (hg : o.guard = some (j, want)) (hy : yieldE ops env j = some b) (hb : (b == want) = false) (h : PWL P Gl B ops rest (putE env o.dst (.tup [])) st Q) :
  PWL P Gl B ops (o :: rest) env st Q := fun A w β tmps hi he => by
 unfold wpList
 rw [if_neg (by
  simp only [Region.wanted, hg, yield_of he hy]
  simp only [beq_eq_false_iff_ne, ne_eq] at hb
  simpa using hb)]
 rw [put_tmps]
 exact h A w β _ hi (he.put o.dst (den_undef ..))
theorem pl_offN {j : Nat} {want : Bool} (hg : o.guard = some (j, want)) (hy : noYield ops env j = true) (h : PWL P Gl B ops rest (putE env o.dst (.tup [])) st Q) :
  PWL P Gl B ops (o :: rest) env st Q := fun A w β tmps hi he => by
 unfold wpList
 rw [if_neg (by
  simp only [Region.wanted, hg, noYield_of he hy]
  simp)]
 rw [put_tmps]
 exact h A w β _ hi (he.put o.dst (den_undef ..))
theorem op_val {K : PV → List PObj → Prop} {x : PV} (h : ∀ A w β tmps, Inv Gl B A w β st → EnvRel A w β env tmps → ∃ v, (execOp (⟨tmps.toArray, []⟩ : Act).eval o).run P w = .ok (.value v) w ∧ Den A w β x v)
  (hK : K x st) : OpP P Gl B o env st K := fun A w β tmps Q hi he => by
 obtain ⟨v, hr, hd⟩ := h A w β tmps hi he
 unfold Oper.wp
 rw [hr]
 exact ⟨v, x, st, A, β, rfl, hK, hd, hi, .refl _ _, .refl _⟩
def OpV (P : Program) (Gl : Glob) (B : Base) (o : Oper) (env : List PV) (x : PV) : Prop :=
 ∀ st A w β tmps, Inv Gl B A w β st → EnvRel A w β env tmps → ∃ v, (execOp (⟨tmps.toArray, []⟩ : Act).eval o).run P w = .ok (.value v) w ∧ Den A w β x v
theorem op_of {K : PV → List PObj → Prop} {x : PV} (h : OpV P Gl B o env x) (hK : K x st) : OpP P Gl B o env st K := op_val (fun A w β tmps hi he => h st A w β tmps hi he) hK
def pureStep (tys : List TI) (st : List PObj) (o : Oper) (env : List PV) : Option (List PV) :=
 match o.guard with
 | none => match pureOp tys st env o.op with
  | some x => x.force fun x => match o.dst with
   | some d => forceL (env.set d x) some
   | none => some env
  | none => none
 | some _ => none
def pureOn (tys : List TI) (st : List PObj) (ops : Array Oper) (o : Oper) (env : List PV) : Option (List PV) :=
 match o.guard with
 | some (j, want) => match yieldE ops env j with
  | some b => match b == want with
   | true => match pureOp tys st env o.op with
    | some x => x.force fun x => match o.dst with
     | some d => forceL (env.set d x) some
     | none => some env
    | none => none
   | false => match o.dst with
    | some d => forceL (env.set d (.tup [])) some
    | none => some env
  | none => match noYield ops env j with
   | true => match o.dst with
    | some d => forceL (env.set d (.tup [])) some
    | none => some env
   | false => none
 | none => none
theorem pl_pure {env' : List PV} (hT : Tys P tys) (h : pureStep tys st o env = some env') (hr : PWL P Gl B ops rest env' st Q) : PWL P Gl B ops (o :: rest) env st Q := by
 unfold pureStep at h
 split at h
 ·rename_i hg
  split at h
  ·rename_i x hx
   refine pl_op hg (op_val (fun A w β tmps hi he => pureOp_sound hT hx hi he) ?_)
   rw [PV.force_eq] at h
   unfold putE
   split at h
   ·rename_i d hd; rw [forceL_eq] at h; cases h; exact hr
   ·rename_i hd; cases h; exact hr
  ·cases h
 ·cases h
theorem pl_gpure {env' : List PV} (hT : Tys P tys) (h : pureOn tys st ops o env = some env') (hr : PWL P Gl B ops rest env' st Q) : PWL P Gl B ops (o :: rest) env st Q := by
 unfold pureOn at h
 split at h
 ·rename_i j want hg
  split at h
  ·rename_i b hy
   split at h
   ·rename_i hb
    have hb' : b = want := by simpa using hb
    subst hb'
    split at h
    ·rename_i x hx
     refine pl_on hg hy (op_val (fun A w β tmps hi he => pureOp_sound hT hx hi he) ?_)
     rw [PV.force_eq] at h
     unfold putE
     split at h
     ·rename_i d hd; rw [forceL_eq] at h; cases h; exact hr
     ·rename_i hd; cases h; exact hr
    ·cases h
   ·rename_i hb
    refine pl_off hg hy hb ?_
    unfold putE
    split at h
    ·rename_i d hd; rw [forceL_eq] at h; cases h; exact hr
    ·rename_i hd; cases h; exact hr
  ·split at h
   ·rename_i hy
    refine pl_offN hg hy ?_
    unfold putE
    split at h
    ·rename_i d hd; rw [forceL_eq] at h; cases h; exact hr
    ·rename_i hd; cases h; exact hr
   ·cases h
 ·cases h
end rules
end Go.Pw
namespace Go.Pw
open Go
section rules
variable {P : Program} {Gl : Glob} {B : Base} {tys : List TI} {env : List PV} {st : List PObj} {ops : Array Oper} {rest : List Oper} {o : Oper}
 {A : Nat → Prop} {w : World} {β : List Nat} {tmps : List Value}
theorem liveAt_snoc {o : PObj} {i : Nat} (h : liveAt (st ++ [o]) i) (hi : i < st.length) : liveAt st i := by
 obtain ⟨x, h1, h2⟩ := h
 rw [List.getElem?_append_left hi] at h1
 exact ⟨x, h1, h2⟩
theorem Inv.snoc (hi : Inv Gl B A w β st) (ob : Obj) (x : PObj) (hx : ObjRel A (β ++ [w.heap.size]) (w.alloc ob) w.heap.size x) :
  Inv Gl B A (w.alloc ob) (β ++ [w.heap.size]) (st ++ [x]) := by
 have hsz : (w.alloc ob).heap.size = w.heap.size + 1 := by show (w.heap.push ob).size = _; simp
 have hsame : ∀ b, b < w.heap.size → (w.alloc ob).heap[b]? = w.heap[b]? := fun b hb => by
  show (w.heap.push ob)[b]? = _
  rw [Array.getElem?_push, if_neg (by omega)]
 have hlen := hi.len
 have hE : Ext A w A (w.alloc ob) := ⟨fun _ h => h, fun b hb => hsame b (hi.lt b hb)⟩
 have hget : ∀ {i b}, (β ++ [w.heap.size])[i]? = some b → (i < st.length ∧ β[i]? = some b) ∨ (i = st.length ∧ b = w.heap.size) := by
  intro i b h
  by_cases hi' : i < β.length
  ·rw [List.getElem?_append_left hi'] at h; exact .inl ⟨by omega, h⟩
  ·rw [List.getElem?_append_right (by omega)] at h
   cases hk : i - β.length with
   | zero => rw [hk] at h; simp at h; exact .inr ⟨by omega, h.symm⟩
   | succ n => rw [hk] at h; simp at h
 have hlt : ∀ {i b}, β[i]? = some b → liveAt st i → b < w.heap.size := fun {i b} hb ⟨o, ho, hl⟩ => (hi.obj i b o hb ho).lt hl
 refine ⟨by simp [hlen], ?_, ?_, ?_, ?_, ?_, hi.new, hi.old, by rw [hsz]; exact Nat.le_succ_of_le hi.size, hi.os, hi.tape, hi.output, ?_, hi.glob, fun i b h1 h2 => Pre.snoc _ _ _ _ (hi.pre i b h1 h2), hi.apart⟩
 ·intro i j b h1 h2 l1 l2
  rcases hget h1 with ⟨a1, b1⟩ | ⟨a1, b1⟩ <;> rcases hget h2 with ⟨a2, b2⟩ | ⟨a2, b2⟩
  ·exact hi.inj i j b b1 b2 (liveAt_snoc l1 a1) (liveAt_snoc l2 a2)
  ·have := hlt b1 (liveAt_snoc l1 a1); omega
  ·have := hlt b2 (liveAt_snoc l2 a2); omega
  ·omega
 ·intro i b o h1 h2
  rcases hget h1 with ⟨a1, b1⟩ | ⟨a1, b1⟩
  ·rw [List.getElem?_append_left a1] at h2
   cases ho : o.live with
   | false => exact (hi.obj i b o b1 h2).still ho
   | true => exact (hi.obj i b o b1 h2).mono hE (Pre.snoc _ _) (hsame b (hlt b1 ⟨o, h2, ho⟩))
  ·subst a1 b1
   rw [List.getElem?_append_right (Nat.le_refl _)] at h2
   simp at h2
   subst h2
   exact hx
 ·intro i b h1 l1 hA
  rcases hget h1 with ⟨a1, b1⟩ | ⟨a1, b1⟩
  ·exact hi.notA i b b1 (liveAt_snoc l1 a1) hA
  ·have := hi.lt b hA; omega
 ·intro i b h1 l1
  rcases hget h1 with ⟨a1, b1⟩ | ⟨a1, b1⟩
  ·exact hi.own i b b1 (liveAt_snoc l1 a1)
  ·right; rw [b1]; exact hi.size
 ·intro b hb; rw [hsz]; exact Nat.lt_succ_of_lt (hi.lt b hb)
 ·intro b hb hk; rw [hsame b (Nat.lt_of_lt_of_le hb hi.size)]; exact hi.keep b hb hk
theorem Inv.ext_alloc (hi : Inv Gl B A w β st) (ob : Obj) : Ext A w A (w.alloc ob) :=
 ⟨fun _ h => h, fun b hb => by
  show (w.heap.push ob)[b]? = _
  rw [Array.getElem?_push, if_neg (by have := hi.lt b hb; omega)]⟩
theorem run_newVar (t : TypeId) (v : Value) : (newVar t v).run P w = .ok ⟨w.heap.size, 0, none⟩ (w.alloc (.cells v.cells t)) := by
 simp [newVar, newRow]
theorem op_newbox {K : PV → List PObj → Prop} {cs : List PV} {t : TypeId}
  (h : ∀ A w β tmps, Inv Gl B A w β st → EnvRel A w β env tmps → ∃ v : Value, (∃ vs : List Value, v.cells = vs.toArray ∧ cs.length = vs.length ∧ ∀ (j : Nat) c u, cs[j]? = some c → vs[j]? = some u → Den A w β c u) ∧
   (execOp (⟨tmps.toArray, []⟩ : Act).eval o).run P w = .ok (.value (.pointer (some ⟨w.heap.size, 0, none⟩))) (w.alloc (.cells v.cells t)))
  (hK : K (.ptr st.length 0) (st ++ [.box cs])) : OpP P Gl B o env st K := fun A w β tmps Q hi he => by
 obtain ⟨v, ⟨vs, hv, hl, hd⟩, hr⟩ := h A w β tmps hi he
 unfold Oper.wp
 rw [hr]
 have hE := hi.ext_alloc (.cells v.cells t)
 have hlen := hi.len
 refine ⟨_, _, _, A, β ++ [w.heap.size], rfl, hK, .ptr _ _ _ _ ?_, hi.snoc _ _ ⟨vs, t, (0, 0), ?_, hl.symm, by omega, fun j c u hc hu => (hd j c u hc hu).mono hE (Pre.snoc _ _)⟩, hE, Pre.snoc _ _⟩
 ·rw [← hlen]; simp
 ·rw [← hv]
  show (w.heap.push _)[w.heap.size]? = _
  simp
theorem op_box {K : PV → List PObj → Prop} {t : TypeId} {x : Operand} (ho : o.op = .box t x) {p : PV} (hp : pe env x = p) (hk : p.okPart = true) (hK : K (.ptr st.length 0) (st ++ [.box p.cells])) :
  OpP P Gl B o env st K := op_newbox (cs := p.cells) (t := t) (fun A w β tmps hi he => by
 have hd := he.eval [] x
 rw [hp] at hd
 refine ⟨_, cells_den hd hk, ?_⟩
 simp only [execOp, ho, Instr.box, Sem.run_bind, run_newVar, Result.andThen_ok, Sem.run_pure]) hK
theorem op_alloc {K : PV → List PObj → Prop} {t : TypeId} (hT : Tys P tys) (ho : o.op = .alloc t) {tk : TK} {sz by_ : Nat} {z : List PV} (ht : tys[t]? = some ⟨tk, sz, by_, some z⟩)
  (hK : K (.ptr st.length 0) (st ++ [.box z])) : OpP P Gl B o env st K := op_newbox (cs := z) (t := t) (fun A w β tmps hi he => by
 obtain ⟨i, d, hi1, hu, htk, hsz, hby, hz⟩ := tyOf_spec (hT _ _ ht)
 cases hzv : i.zero with
 | none => rw [hzv] at hz; cases hz
 | some zv =>
  rw [hzv] at hz
  cases hz
  refine ⟨zv, ⟨zv.cells.toList, by simp, by simp, fun j c u h1 h2 => zero_den j c u h1 h2⟩, ?_⟩
  have hzr : (zeroValue t).run P w = .ok zv w := by simp [zeroValue, run_info hi1, hzv]
  simp only [execOp, ho, Instr.alloc, Sem.run_bind, hzr, run_newVar, Result.andThen_ok, Sem.run_pure]) hK
def splice (cs : List PV) (off : Nat) (xs : List PV) : List PV := cs.take off ++ xs ++ cs.drop (off + xs.length)
theorem liveAt_set {i j : Nat} {x y : PObj} (hy : st[i]? = some y) (hyl : y.live = true) (h : liveAt (st.set i x) j) : liveAt st j := by
 obtain ⟨o, h1, h2⟩ := h
 rw [List.getElem?_set] at h1
 split at h1
 ·rename_i hij; subst hij; exact ⟨y, hy, hyl⟩
 ·exact ⟨o, h1, h2⟩
theorem Inv.write (hi : Inv Gl B A w β st) {i b : Nat} {y x : PObj} (hb : β[i]? = some b) (hy : st[i]? = some y) (hyl : y.live = true) {w' : World} (hsz : w'.heap.size = w.heap.size) (hos : w'.os = w.os)
  (htp : w'.tape = w.tape) (hou : w'.output = w.output) (hoth : ∀ k, k ≠ b → w'.heap[k]? = w.heap[k]?) (hx : ObjRel A β w' b x) : Inv Gl B A w' β (st.set i x) ∧ Ext A w A w' := by
 have hnA : ¬ A b := hi.notA i b hb ⟨y, hy, hyl⟩
 have hE : Ext A w A w' := ⟨fun _ h => h, fun k hk => hoth k (fun e => hnA (e ▸ hk))⟩
 refine ⟨⟨by simp [hi.len], ?_, ?_, ?_, ?_, fun k hk => by rw [hsz]; exact hi.lt k hk, hi.new, hi.old, by rw [hsz]; exact hi.size, hos.trans hi.os, htp.trans hi.tape, hou.trans hi.output, ?_, hi.glob, hi.pre, hi.apart⟩, hE⟩
 ·intro j k c h1 h2 l1 l2
  exact hi.inj j k c h1 h2 (liveAt_set hy hyl l1) (liveAt_set hy hyl l2)
 ·intro j c o h1 h2
  rw [List.getElem?_set] at h2
  split at h2
  ·rename_i hij
   subst hij
   rw [hb] at h1
   cases h1
   split at h2
   ·cases h2; exact hx
   ·cases h2
  ·rename_i hij
   cases ho : o.live with
   | false => exact (hi.obj j c o h1 h2).still ho
   | true =>
    have hne : c ≠ b := fun e => by subst e; exact hij (hi.inj i j c hb h1 ⟨y, hy, hyl⟩ ⟨o, h2, ho⟩)
    exact (hi.obj j c o h1 h2).mono hE (Pre.refl _) (hoth c hne)
 ·intro j c h1 l1; exact hi.notA j c h1 (liveAt_set hy hyl l1)
 ·intro j c h1 l1; exact hi.own j c h1 (liveAt_set hy hyl l1)
 ·intro k hk hK
  have hne : k ≠ b := fun e => by
   subst e
   rcases hi.own i k hb ⟨y, hy, hyl⟩ with h | h
   ·exact hK h
   ·omega
  rw [hoth k hne]; exact hi.keep k hk hK
theorem one_cell {p : PV} {v : Value} (h : Den A w β p v) (ho : p.one = true) : v.oneCell' = true := by
 cases h <;> first | rfl | (simp [PV.one] at ho)
theorem run_storeCells (b : Nat) (T : TypeId) (fr : Nat × Nat) : ∀ (us : List Value) (i base : Nat) (vs : List Value) (w : World), w.heap[b]? = some (.cells vs.toArray T fr) → base + i + us.length ≤ vs.length →
  (∀ u ∈ us, u.oneCell' = true) → (∀ j, j < vs.length → ¬ (fr.1 ≤ j ∧ j < fr.2)) →
  ∃ w', (storeCells ⟨b, base, none⟩ us i).run P w = .ok () w' ∧ w'.heap.size = w.heap.size ∧ w'.os = w.os ∧ w'.tape = w.tape ∧ w'.output = w.output ∧ (∀ k, k ≠ b → w'.heap[k]? = w.heap[k]?) ∧
   w'.heap[b]? = some (.cells (vs.take (base + i) ++ us ++ vs.drop (base + i + us.length)).toArray T fr)
 | [], i, base, vs, w, hw, hl, h1, hf => ⟨w, by simp [storeCells], rfl, rfl, rfl, rfl, fun _ _ => rfl, by simpa using hw⟩
 | u :: us, i, base, vs, w, hw, hl, h1, hf => by
  simp only [List.length_cons] at hl
  have hc : w.cell? ⟨b, base + i, none⟩ = some (vs[base + i]'(by omega)) := by rw [obj_cell hw]; exact List.getElem?_eq_getElem (by omega)
  have hfz : w.frozen? ⟨b, base + i, none⟩ = false := by
   simp only [World.frozen?, hw]
   have := hf (base + i) (by omega)
   simp only [Bool.and_eq_false_iff, decide_eq_false_iff_not]
   omega
  have hbs : b < w.heap.size := by
   rcases Nat.lt_or_ge b w.heap.size with h | h
   ·exact h
   ·rw [Array.getElem?_eq_none h] at hw; cases hw
  have hw' : (w.setCell ⟨b, base + i, none⟩ u).heap[b]? = some (.cells (vs.set (base + i) u).toArray T fr) := by
   simp [World.setCell, Array.getElem?_modify, hw]
  obtain ⟨w2, r1, r2, r3, r4, r5, r6, r7⟩ := run_storeCells b T fr us (i + 1) base (vs.set (base + i) u) (w.setCell ⟨b, base + i, none⟩ u) hw' (by simp; omega) (fun x hx => h1 x (by simp [hx])) (by simpa using hf)
  refine ⟨w2, ?_, r2.trans (by simp [World.setCell]), r3, r4, r5, fun k hk => (r6 k hk).trans ?_, ?_⟩
  ·simp only [storeCells, Sem.run_bind, addr_add, run_store _ _ _ _ _ (h1 u (by simp)), hc, hfz, Bool.false_eq_true, if_false, Result.andThen_ok, r1]
  ·simp only [World.setCell, Array.getElem?_modify]; rw [if_neg (fun e => hk e.symm)]
  ·rw [r7]
   congr 3
   rw [List.drop_set_of_lt (by omega), ← Nat.add_assoc, List.take_succ_eq_append_getElem (by simp; omega), List.take_set_of_le (Nat.le_refl _)]
   simp [Nat.add_assoc, Nat.add_comm 1]
theorem op_store {K : PV → List PObj → Prop} {t : TypeId} {a x : Operand} (hT : Tys P tys) (ho : o.op = .store t a x) {p : PV} {i off : Nat} {cs : List PV} {ti : TI} (ht : tys[t]? = some ti)
  (ha : pe env a = .ptr i off) (hp : pe env x = p) (hs : st[i]? = some (.box cs)) (hk : p.okPart = true) (h1 : p.cells.all PV.one = true) (hsz : p.cells.length = ti.size) (hle : off + ti.size ≤ cs.length)
  (hK : K .any (st.set i (.box (splice cs off p.cells)))) : OpP P Gl B o env st K := fun A w β tmps Q hi he => by
 have hda := he.eval [] a
 have hdx := he.eval [] x
 rw [ha] at hda
 rw [hp] at hdx
 obtain ⟨b, hb, hv⟩ := hda.ptr_inv
 obtain ⟨us, hu1, hu2, hu3⟩ := cells_den hdx hk
 obtain ⟨vs, T', fr, g1, g2, g3, g4⟩ := hi.obj _ _ _ hb hs
 obtain ⟨ity, d, hi1, hut, htk, hts, _⟩ := tyOf_spec (hT _ _ ht)
 have hone : ∀ u ∈ us, u.oneCell' = true := by
  intro u hu
  obtain ⟨j, hj⟩ := List.mem_iff_getElem?.1 hu
  have hlt : j < p.cells.length := by rw [hu2]; exact (List.getElem?_eq_some_iff.1 hj).1
  have hcj : p.cells[j]? = some p.cells[j] := List.getElem?_eq_getElem hlt
  exact one_cell (hu3 j _ u hcj hj) (List.all_eq_true.1 h1 _ (List.getElem_mem hlt))
 obtain ⟨w', r1, r2, r3, r4, r5, r6, r7⟩ := run_storeCells (P := P) b T' fr us 0 off vs w g1 (by omega) hone (by rw [g2]; exact g3)
 have hx : ObjRel A β w' b (.box (splice cs off p.cells)) := by
  have hE : Ext A w A w' := ⟨fun _ h => h, fun k hkk => r6 k (fun e => hi.notA i b hb ⟨_, hs, rfl⟩ (e ▸ hkk))⟩
  refine ⟨_, T', fr, r7, ?_, ?_, ?_⟩
  ·simp [splice]; omega
  ·intro j hj; exact g3 j (by simp [splice] at hj; omega)
  ·intro j c u hc hu
   exact (splice_den g2.symm hu2 (by omega) g4 hu3 j c u hc (by simpa using hu)).mono hE (Pre.refl _)
 obtain ⟨hi', hE⟩ := hi.write hb hs rfl r2 r3 r4 r5 r6 hx
 unfold Oper.wp
 have hrun : (execOp (⟨tmps.toArray, []⟩ : Act).eval o).run P w = .ok .skip w' := by
  simp only [execOp, ho, Instr.storeAt, Sem.run_bind, hv, Instr.sureAddr, Sem.run_pure, Result.andThen_ok, storeVar]
  have hsz' : (sizeOf t).run P w = .ok ti.size w := run_size (by simp [szOf, hi1, hts]) w
  rw [hsz', Result.andThen_ok, if_neg (by rw [hu1]; simp; omega), hu1]
  simp only [r1, Result.andThen_ok]
 rw [hrun]
 exact ⟨_, .any, _, A, β, rfl, hK, .any .., hi', hE, .refl _⟩
end rules
end Go.Pw
