/-
 Parts of a region; both ways of a test inside a region, joined again.
 Functions that look at no object of the caller's.
 Loops whose rounds make objects of their own; the frame at a loop's head.
 The library's proved summaries as contracts over pure values.
 Maps with strings for keys; elements of arrays behind a pointer; scopes.
 Calls to which arrays of the caller's own are lent: the callee reads them as rows, and behind the call they are the caller's own again.
 Elements of arrays of the function's own, read and written in place; operations whose pure value is shown, not reckoned.
 Two ways of a test, joined behind it; calls to which the arrays below a number are lent.
-/
import Derived.Test.YtokclomhkggikaaGreatDoorJPwFrz
import Derived.Below
import Derived.Deep.Draws
import Derived.Scope
import Derived.MapKept
namespace Go.Pw
open Go
def dstsL : List Oper → List Nat
 | [] => []
 | o :: l => match o.dst with
  | some d => d :: dstsL l
  | none => dstsL l
def dstsOf : Code → List Nat
 | .region _ ops _ => dstsL ops.toList
 | .seq a b => dstsOf a ++ dstsOf b
 | .block _ a => dstsOf a
 | .loop a => dstsOf a
 | .cond _ a b => dstsOf a ++ dstsOf b
 | _ => []
def forceN {α : Type} : List Nat → (List Nat → α) → α
 | [], k => k []
 | x :: xs, k => forceN xs fun ys => k (x :: ys)
def memN (k : Nat) : List Nat → Bool
 | [] => false
 | d :: ds => match Nat.beq k d with | true => true | false => memN k ds
def lookN (k : Nat) : List (Nat × PV) → Option PV
 | [] => none
 | (d, x) :: l => match Nat.beq k d with | true => some x | false => lookN k l
def headK {α : Type} (ds : List Nat) (vs : List (Nat × PV)) : Nat → List PV → (List PV → α) → α
 | _, [], k => k []
 | n, x :: xs, k => match lookN n vs with
  | some y => headK ds vs (n + 1) xs fun l => k (y :: l)
  | none => match memN n ds with
   | true => headK ds vs (n + 1) xs fun l => k (.any :: l)
   | false => headK ds vs (n + 1) xs fun l => k (x :: l)
section rules
variable {P : Program} {Gl : Glob} {B : Base} {tys : List TI} {env : List PV} {st : List PObj} {ops : Array Oper} {rest : List Oper} {o : Oper} {Q : Post}
 {A : Nat → Prop} {w : World} {β : List Nat} {tmps : List Value}
theorem wp_exits {a : Act} {K : Act → World → Prop} {Q1 Q2 : Exit → Act → World → Prop} (h0 : ∀ e a w, Q1 e a w → e = .normal) (hh : o.wp P a w K Q1) : o.wp P a w K Q2 := by
 have hl : ¬ LetsOut Q1 := fun ⟨a, w, h⟩ => by cases h0 _ _ _ h
 have hp : ∀ c a w, ¬ Q1 (.panic c) a w := fun c a w h => by cases h0 _ _ _ h
 unfold Oper.wp at *
 generalize (execOp a.eval o).run P w = r at *
 cases r with
 | ok n w' =>
  cases n <;> simp only [Oper.upon] at hh ⊢ <;>
   first
    | exact hh
    | exact Calls.mono hh (fun e w'' he => by cases e <;> first | exact he | exact (hp _ _ _ he).elim | exact (hl he).elim)
 | halt x w' => cases x <;> simp only [Oper.upon] at hh ⊢ <;> first | exact hh | exact (hp _ _ _ hh).elim
theorem wpList_append {Q1 Q2 : Exit → Act → World → Prop} (h0 : ∀ e a w, Q1 e a w → e = .normal ∧ wpList P ops Q2 rest a w) : ∀ (pre : List Oper) (a : Act) (w : World), wpList P ops Q1 pre a w → wpList P ops Q2 (pre ++ rest) a w
 | [], a, w, h => (h0 _ _ _ h).2
 | o :: pre, a, w, h => by
  unfold wpList at h
  show wpList P ops Q2 (o :: (pre ++ rest)) a w
  unfold wpList
  split at h
  ·rename_i hw
   rw [if_pos hw]
   rcases h with h | ⟨_, a, w, h⟩
   ·exact .inl (wp_exits (fun e a w h => (h0 e a w h).1) (Oper.wp_mono (wpList_append h0 pre) h))
   ·cases (h0 _ _ _ h).1
  ·rename_i hw
   rw [if_neg hw]
   exact wpList_append h0 pre _ _ h
def midOf (K : List PV → List PObj → Prop) : Post
 | .normal, env, st => K env st
 | _, _, _ => False
theorem pl_cut (n : Nat) (K : List PV → List PObj → Prop) (h : PWL P Gl B ops (rest.take n) env st (midOf K)) (hK : ∀ env' st', K env' st' → PWL P Gl B ops (rest.drop n) env' st' Q) : PWL P Gl B ops rest env st Q := fun A w β tmps hi he => by
 have := wpList_append (P := P) (ops := ops) (rest := rest.drop n) (Q1 := Real Gl B (midOf K)) (Q2 := Real Gl B Q) (fun e a w hr => by
  obtain ⟨env', st', A', β', t', rfl, h2, h3, h4⟩ := hr
  cases e with
  | normal => exact ⟨rfl, hK env' st' h2 A' w β' t' h3 h4⟩
  | _ => exact h2.elim) (rest.take n) _ _ (h A w β tmps hi he)
 rwa [List.take_append_drop] at this
theorem pl_weaken {env' : List PV} {st' : List PObj} (hl : Le env env') (hs : StLe st st') (h : PWL P Gl B ops rest env' st' Q) : PWL P Gl B ops rest env st Q :=
 fun A w β tmps hi he => h A w β tmps (hi.weaken hs) (he.weaken hl)
theorem pl_fork (n t d : Nat) {b : Bool} (e1 e0 : Bool) {ds : List Nat} {envM : List PV} (hj : env[t]? = some (.bool b)) (_hds : (forceN (dstsL (rest.take n)) fun l => (l, ())) = (ds, ())) (_hM : (headK ds [] 0 env fun e => (e, ())) = (envM, ()))
  (h1 : b = true → PWL P Gl B ops (rest.take n) (env.set t (.bool true)) st (midOf fun env' st' => Le env' ((envM.set t (.bool true)).set d (.bool e1)) ∧ StLe st' st))
  (h0 : b = false → PWL P Gl B ops (rest.take n) (env.set t (.bool false)) st (midOf fun env' st' => Le env' ((envM.set t (.bool false)).set d (.bool e0)) ∧ StLe st' st))
  (hr : PWL P Gl B ops (rest.drop n) ((envM.set t (.bool b)).set d (.bool (bif b then e1 else e0))) st Q) : PWL P Gl B ops rest env st Q := by
 have hse : env.set t (.bool b) = env := by
  apply List.ext_getElem?
  intro i
  rw [List.getElem?_set]
  split
  ·rename_i e; subst e
   have := (List.getElem?_eq_some_iff.1 hj).1
   rw [if_pos this, hj]
  ·rfl
 cases b with
 | true =>
  refine pl_cut n (fun env' st' => Le env' ((envM.set t (.bool true)).set d (.bool e1)) ∧ StLe st' st) (by have := h1 rfl; rwa [hse] at this) fun env' st' ⟨hl, hs⟩ => ?_
  exact pl_weaken hl hs hr
 | false =>
  refine pl_cut n (fun env' st' => Le env' ((envM.set t (.bool false)).set d (.bool e0)) ∧ StLe st' st) (by have := h0 rfl; rwa [hse] at this) fun env' st' ⟨hl, hs⟩ => ?_
  exact pl_weaken hl hs hr
theorem pl_and (n t d : Nat) {b : Bool} (e1 : Bool) {ds : List Nat} {envM : List PV} (hj : env[t]? = some (.bool b)) (hds : (forceN (dstsL (rest.take n)) fun l => (l, ())) = (ds, ())) (hM : (headK ds [] 0 env fun e => (e, ())) = (envM, ()))
  (h1 : b = true → PWL P Gl B ops (rest.take n) (env.set t (.bool true)) st (midOf fun env' st' => Le env' ((envM.set t (.bool true)).set d (.bool e1)) ∧ StLe st' st))
  (h0 : b = false → PWL P Gl B ops (rest.take n) (env.set t (.bool false)) st (midOf fun env' st' => Le env' ((envM.set t (.bool false)).set d (.bool false)) ∧ StLe st' st))
  (hr : PWL P Gl B ops (rest.drop n) ((envM.set t (.bool b)).set d (.bool (b && e1))) st Q) : PWL P Gl B ops rest env st Q :=
 pl_fork n t d e1 false hj hds hM h1 h0 (by rw [show (bif b then e1 else false) = (b && e1) by cases b <;> rfl]; exact hr)
theorem pl_or (n t d : Nat) {b : Bool} (e0 : Bool) {ds : List Nat} {envM : List PV} (hj : env[t]? = some (.bool b)) (hds : (forceN (dstsL (rest.take n)) fun l => (l, ())) = (ds, ())) (hM : (headK ds [] 0 env fun e => (e, ())) = (envM, ()))
  (h1 : b = true → PWL P Gl B ops (rest.take n) (env.set t (.bool true)) st (midOf fun env' st' => Le env' ((envM.set t (.bool true)).set d (.bool true)) ∧ StLe st' st))
  (h0 : b = false → PWL P Gl B ops (rest.take n) (env.set t (.bool false)) st (midOf fun env' st' => Le env' ((envM.set t (.bool false)).set d (.bool e0)) ∧ StLe st' st))
  (hr : PWL P Gl B ops (rest.drop n) ((envM.set t (.bool b)).set d (.bool (b || e0))) st Q) : PWL P Gl B ops rest env st Q :=
 pl_fork n t d true e0 hj hds hM h1 h0 (by rw [show (bif b then true else e0) = (b || e0) by cases b <;> rfl]; exact hr)
theorem pl_normE {env' : List PV} (h : (forceL env fun e => (e, ())) = (env', ())) (hr : PWL P Gl B ops rest env' st Q) : PWL P Gl B ops rest env st Q := by
 rw [forceL_eq] at h
 cases h
 exact hr
theorem pw_normE {c : Code} {env' : List PV} (h : (forceL env fun e => (e, ())) = (env', ())) (hr : PW P Gl B c env' st Q) : PW P Gl B c env st Q := by
 rw [forceL_eq] at h
 cases h
 exact hr
theorem set_self {t : Nat} {x : PV} (hj : env[t]? = some x) : env.set t x = env := by
 apply List.ext_getElem?
 intro i
 rw [List.getElem?_set]
 split
 ·rename_i e; subst e
  have := (List.getElem?_eq_some_iff.1 hj).1
  rw [if_pos this, hj]
 ·rfl
theorem pl_split (t : Nat) {b : Bool} (hj : env[t]? = some (.bool b)) (h1 : b = true → PWL P Gl B ops rest (env.set t (.bool true)) st Q) (h0 : b = false → PWL P Gl B ops rest (env.set t (.bool false)) st Q) : PWL P Gl B ops rest env st Q := by
 have hs := set_self hj
 cases b with
 | true => have := h1 rfl; rwa [hs] at this
 | false => have := h0 rfl; rwa [hs] at this
theorem po_split {E : List PV → List PObj → List (Nat × Nat) → Prop} (t : Nat) {b : Bool} {ord : List (Nat × Bool)} {L : List (Nat × Nat)} (hj : env[t]? = some (.bool b)) (h1 : b = true → PWO P Gl B ops E ord (env.set t (.bool true)) st L) (h0 : b = false → PWO P Gl B ops E ord (env.set t (.bool false)) st L) : PWO P Gl B ops E ord env st L := by
 have hs := set_self hj
 cases b with
 | true => have := h1 rfl; rwa [hs] at this
 | false => have := h0 rfl; rwa [hs] at this
theorem v_min {T1 T2 : TypeId} {x y : Operand} {k : IntKind} {a b : Int} (ho : o.op = .call ⟨.builtin .min, #[x, y], #[T1, T2]⟩) (ha : pe env x = .int k a) (hb : pe env y = .int k b) : OpV P Gl B o env (.int k (min a b)) := fun _ A w β tmps _ he => by
 refine ⟨.int k (min a b), ?_, .int ..⟩
 have hm : #[x, y].map (⟨tmps.toArray, []⟩ : Act).eval = #[.int k a, .int k b] := by simp [int_of he ha, int_of he hb]
 simp only [execOp, ho, Go.resolve, Sem.run_bind, Sem.run_pure, Result.andThen_ok, invoke, builtin, hm, Builtin.min_, List.foldlM_cons, List.foldlM_nil, Builtin.min2]
 rw [show (if b < a then b else a) = min a b by omega]
theorem v_max {T1 T2 : TypeId} {x y : Operand} {k : IntKind} {a b : Int} (ho : o.op = .call ⟨.builtin .max, #[x, y], #[T1, T2]⟩) (ha : pe env x = .int k a) (hb : pe env y = .int k b) : OpV P Gl B o env (.int k (max a b)) := fun _ A w β tmps _ he => by
 refine ⟨.int k (max a b), ?_, .int ..⟩
 have hm : #[x, y].map (⟨tmps.toArray, []⟩ : Act).eval = #[.int k a, .int k b] := by simp [int_of he ha, int_of he hb]
 simp only [execOp, ho, Go.resolve, Sem.run_bind, Sem.run_pure, Result.andThen_ok, invoke, builtin, hm, Builtin.max_, List.foldlM_cons, List.foldlM_nil, Builtin.max2]
 rw [show (if b > a then b else a) = max a b by omega]
end rules
end Go.Pw
namespace Go.Pw
open Go
theorem PV.refs_mono {d d' : Nat → Bool} (hd : ∀ i, d i = true → d' i = true) : ∀ (n : Nat) (p : PV), p.refs d n = true → p.refs d' n = true := by
 intro n
 induction n with
 | zero => intro p h; simp [PV.refs] at h
 | succ n ih =>
  intro p h
  have lst : ∀ cs : List PV, cs.all (PV.refs d n) = true → cs.all (PV.refs d' n) = true := fun cs hc =>
   List.all_eq_true.2 fun p hp => ih p (List.all_eq_true.1 hc p hp)
  cases p <;> simp only [PV.refs] at h ⊢ <;> first | exact hd _ h | exact lst _ h | exact ih _ h
theorem PV.refs_true {n : Nat} {p : PV} (h : p.refs (fun _ => false) n = true) : p.refs (fun _ => true) n = true := PV.refs_mono (fun _ _ => rfl) n p h
def PFun (P : Program) (Gl : Glob) (f : FuncId) (args : List PV) (R : PV → Prop) : Prop := PCalls P Gl f args [] fun r st => R r ∧ st = []
section rules
variable {P : Program} {Gl : Glob} {B : Base} {tys : List TI} {env : List PV} {st : List PObj} {ops : Array Oper} {rest : List Oper} {o : Oper} {Q : Post}
theorem Enters.of {f : FuncId} {fn : Func} (hf : P.funcs[f]? = some fn) (hn : (fn.name == "runtime.NumGoroutine") = false) (hb : fn.body.isNone = false) : Enters P f := by
 intro args w
 have hn' : ¬ (fn.name = "runtime.NumGoroutine") := by simpa using hn
 have hb' : ¬ (fn.body = none) := by intro h; simp [h] at hb
 simp [callFunc, hf, hn', hb']
theorem PFun.mono {f : FuncId} {args : List PV} {R R' : PV → Prop} (h : PFun P Gl f args R) (hr : ∀ r, R r → R' r) : PFun P Gl f args R' :=
 PCalls.mono h fun _ _ ⟨h1, h2⟩ => ⟨hr _ h1, h2⟩
theorem PFun.of {f : FuncId} {fn : Func} {c : Code} {args : List PV} {R : PV → Prop} (hT : Tys P tys) (hf : P.funcs[f]? = some fn) (hb : fn.body = some c)
  (h : ∀ B, (∀ j, B.D j = dOf [] j) → PW P Gl B c (args ++ List.replicate (fn.ntmps - args.length) .any) [] (retF tys fn.results.toList 0 fun r st => R r ∧ st = [])) : PFun P Gl f args R :=
 PCalls.of hT hf hb 0 (Nat.le_refl _) h
def forceR : Option PV → Option PV
 | some p => p.force some
 | none => none
theorem forceR_eq (x : Option PV) : forceR x = x := by cases x <;> simp [forceR, PV.force_eq]
theorem ret0 {R : PV → Prop} {rs : List ResultVar} (r r' : PV) (h1 : resP tys env st rs = some r) (h2 : R r') (h3 : FLe (fun i => decide (0 ≤ i)) st 3 r r') (h4 : r'.refs (fun i => decide (i < 0)) 5 = true) : retF tys rs 0 (fun r st => R r ∧ st = []) .ret env st :=
 ⟨r, r', [], h1, ⟨h2, rfl⟩, h3, by rw [List.take_zero]; trivial, h4, rfl⟩
theorem ret1 {R : PV → Prop} {rs : List ResultVar} (r : PV) (h1 : forceR (resP tys env st rs) = some r) (h2 : R r) (h4 : r.refs (fun _ => false) 5 = true) : retF tys rs 0 (fun r st => R r ∧ st = []) .ret env st :=
 ret0 r r (by rw [forceR_eq] at h1; exact h1) h2 (.inr (.inl rfl)) (by rw [show (fun i => decide (i < 0)) = fun _ : Nat => false from by funext i; simp]; exact h4)
theorem op_fun {K : PV → List PObj → Prop} {fop : Operand} {args : Array Operand} {ats : Array TypeId} {f : FuncId} {caps : List PV} {R : PV → Prop} {cargs : List PV} (hc : PFun P Gl f cargs R)
  (ho : o.op = .call ⟨.value fop, args, ats⟩) (hf : pe env fop = .fn f caps) (hent : Enters P f) (hle : Le (args.toList.map (pe env) ++ caps) cargs)
  (hrefs : (args.toList.map (pe env) ++ caps).all (PV.refs (fun _ => false) 5) = true) (hK : ∀ r, R r → r.refs (fun _ => false) 5 = true ∧ K r st) : OpP P Gl B o env st K := by
 have h0 : (fun (_ : Nat) => false) = ([] : List Nat).contains := by funext i; rfl
 have hr0 : ∀ p ∈ (args.toList.map (pe env) ++ caps), p.refs (fun _ => false) 5 = true := fun p hp => List.all_eq_true.1 hrefs p hp
 refine op_call [] ho hf hent List.nodup_nil rfl (by rw [← h0]; exact hrefs) rfl (cargs := cargs) (cst := []) ?_ trivial hc ?_
 ·have : (args.toList.map (pe env) ++ caps).map (PV.ren (idxIn []) 5) = args.toList.map (pe env) ++ caps := by
   rw [List.map_congr_left (g := fun x => x) (fun p hp => PV.ren_none 5 p (hr0 p hp))]; simp
  rw [this]; exact hle
 ·rintro r st' ⟨h1, rfl⟩
  obtain ⟨h2, h3⟩ := hK r h1
  refine ⟨?_, rfl, ?_⟩
  ·exact PV.refs_true h2
  ·rw [PV.ren_none 5 r h2]
   have : merge [] st [] = st := by
    have : ∀ (l : List PObj) k, mergeAux [] [] k l = l := by
     intro l
     induction l with
     | nil => intro k; rfl
     | cons x l ih => intro k; simp [mergeAux, ih]
    simp [merge, this]
   simpa [this] using h3
end rules
end Go.Pw
namespace Go.Pw
open Go
section rules
variable {P : Program} {Gl : Glob} {B : Base} {tys : List TI} {env : List PV} {st : List PObj} {Q : Post} {A : Nat → Prop} {w : World} {β : List Nat} {tmps : List Value}
theorem StLe.dead : ∀ (xs : List PObj), StLe xs (xs.map fun _ => .dead)
 | [] => trivial
 | _ :: xs => ⟨.inr (.inl rfl), StLe.dead xs⟩
theorem StLe.append : ∀ {xs ys us vs : List PObj}, StLe xs ys → StLe us vs → StLe (xs ++ us) (ys ++ vs)
 | [], [], _, _, _, h => h
 | _ :: _, _ :: _, _, _, ⟨h1, h2⟩, h => ⟨h1, h2.append h⟩
theorem Inv.cut {st0 st' : List PObj} (hi : Inv Gl B A w β st) (hD : ∀ j, B.D j = dOf st0 j) (hn : st0.length ≤ st'.length) (hs : StLe (st.take st'.length) st') (hr : st'.all (PObj.refs (fun i => decide (i < st'.length)) 5) = true) :
  Inv Gl B A w (β.take st'.length) st' := by
 have h1 : StLe st (st' ++ (st.drop st'.length).map fun _ => .dead) := by
  have := hs.append (StLe.dead (st.drop st'.length))
  rwa [List.take_append_drop] at this
 have h2 := hi.weaken h1
 have ht : (st' ++ (st.drop st'.length).map fun _ => PObj.dead).take st'.length = st' := List.take_left' rfl
 have hg : ∀ {i b : Nat}, (β.take st'.length)[i]? = some b → β[i]? = some b := fun {i b} h => by
  rw [List.getElem?_take] at h
  split at h
  ·exact h
  ·cases h
 have lv : ∀ {i : Nat}, liveAt st' i → liveAt (st' ++ (st.drop st'.length).map fun _ => PObj.dead) i ∧ i < st'.length := fun {i} ⟨o, h1, h2⟩ => by
  have hl := (List.getElem?_eq_some_iff.1 h1).1
  exact ⟨⟨o, by rw [List.getElem?_append_left hl]; exact h1, h2⟩, hl⟩
 refine ⟨?_, ?_, ?_, ?_, ?_, hi.lt, hi.new, hi.old, hi.size, hi.os, hi.tape, hi.output, hi.keep, hi.glob, fun i b h3 h4 => ?_, hi.apart⟩
 ·have := h2.len; simp at this; simp; omega
 ·intro i j b h3 h4 l1 l2; exact h2.inj i j b (hg h3) (hg h4) (lv l1).1 (lv l2).1
 ·intro i b o h3 h4
  have hl := (List.getElem?_eq_some_iff.1 h4).1
  have := (h2.obj i b o (hg h3) (by rw [List.getElem?_append_left hl]; exact h4)).ren (β' := β.take st'.length) (r := fun i => i) (fun k c hk hc => by
   simp only [decide_eq_true_eq] at hk
   rw [List.getElem?_take, if_pos hk]; exact hc) (List.all_eq_true.1 hr o (List.mem_of_getElem? h4))
  rwa [PObj.ren_id] at this
 ·intro i b h3 l1; exact h2.notA i b (hg h3) (lv l1).1
 ·intro i b h3 l1; exact h2.own i b (hg h3) (lv l1).1
 ·have hlt : i < st0.length := by
   rw [hD] at h3
   unfold dOf at h3
   cases hx : st0[i]? with
   | none => rw [hx] at h3; cases h3
   | some x => exact (List.getElem?_eq_some_iff.1 hx).1
  rw [List.getElem?_take, if_pos (by omega)]; exact hi.pre i b h3 h4
theorem EnvRel.cut {n : Nat} {env' : List PV} (he : EnvRel A w β env tmps) (hl : Le env env') (hr : env'.all (PV.refs (fun i => decide (i < n)) 5) = true) : EnvRel A w (β.take n) env' tmps := by
 have h := he.weaken hl
 refine ⟨h.1, fun j p v hp hv => ?_⟩
 exact (h.2 j p v hp hv).refsBelow (List.all_eq_true.1 hr p (List.mem_of_getElem? hp))
theorem pw_for {α : Type} {c : Code} {st0 : List PObj} (hD : ∀ j, B.D j = dOf st0 j) (V : α → List (Nat × PV)) (S : α → List PObj) (I : α → Prop) (μ : α → Nat) (a₀ : α) (h₀ : I a₀) {ds : List Nat} {E : α → List PV} (n : Nat)
  (_hds : (forceN (dstsOf c) fun l => (l, ())) = (ds, ())) (_hV : ∀ a, (headK ds (V a) 0 env fun e => (e, ())) = (E a, ())) (hS : StLe (st.take (S a₀).length) (S a₀)) (hn : ∀ a, (Nat.ble st0.length n && Nat.beq (S a).length n) = true) (hr : ∀ a, ((E a).all (PV.refs (fun i => Nat.blt i n) 5) && (S a).all (PObj.refs (fun i => Nat.blt i n) 5)) = true)
  (hE : Le env (E a₀))
  (round : ∀ a, I a → PW P Gl B c (E a) (S a) (andThen (fun env' st' => ∃ a', I a' ∧ μ a' < μ a ∧ Le env' (E a') ∧ StLe (st'.take (S a').length) (S a')) Q)) : PW P Gl B (.loop c) env st Q := fun A w β tmps hi he => by
 have hlt : (fun i => Nat.blt i n) = fun i => decide (i < n) := by
  funext i
  exact Bool.eq_iff_iff.2 (by simp)
 have hSn : ∀ a, (S a).length = n ∧ st0.length ≤ (S a).length := fun a => by
  have := hn a
  simp only [Bool.and_eq_true] at this
  have h1 := Nat.eq_of_beq_eq_true this.2
  exact ⟨h1, by rw [h1]; exact Nat.le_of_ble_eq_true this.1⟩
 have hr' : ∀ a, (E a).all (PV.refs (fun i => decide (i < (S a).length)) 5) = true ∧ (S a).all (PObj.refs (fun i => decide (i < (S a).length)) 5) = true := fun a => by
  have := hr a
  rw [hlt, ← (hSn a).1] at this
  simpa only [Bool.and_eq_true] using this
 refine wp_loop_ghost (fun x a' w' => ∃ A' β' t', a' = ⟨List.toArray t', []⟩ ∧ I x ∧ Inv Gl B A' w' β' (S x) ∧ EnvRel A' w' β' (E x) t') μ a₀ ⟨A, β.take (S a₀).length, tmps, rfl, h₀, hi.cut hD (hSn _).2 hS (hr' _).2, he.cut hE (hr' _).1⟩ ?_
 rintro x a' w' ⟨A', β', t', rfl, hx, h1, h2⟩
 refine wp_mono (round x hx A' w' β' t' h1 h2) ?_
 rintro e a₂ w₂ r'
 cases e with
 | normal =>
  obtain ⟨env', st', A₂, β₂, t₂, rfl, ⟨x', g1, g2, g3, g4⟩, g5, g6⟩ := r'
  exact ⟨x', ⟨A₂, β₂.take (S x').length, t₂, rfl, g1, g5.cut hD (hSn _).2 g4 (hr' _).2, g6.cut g3 (hr' _).1⟩, g2⟩
 | _ => exact r'
end rules
end Go.Pw
namespace Go.Pw
open Go
section pred
variable {P : Program} {Gl : Glob} {B : Base} {env : List PV} {st : List PObj} {o : Oper}
theorem PObj.ren_none {r : Nat → Nat} {cs : List PV} (h : cs.all (PV.refs (fun _ => false) 5) = true) : (PObj.box cs).ren r 5 = .box cs := by
 simp only [PObj.ren]
 rw [List.map_congr_left (g := fun x => x) (fun p hp => PV.ren_none 5 p (List.all_eq_true.1 h p hp))]; simp
theorem mergeAux_id (sel : List Nat) (st' : List PObj) : ∀ (l : List PObj) k, (∀ j, sel.contains j = true → k ≤ j → j - k < l.length → st'.getD (sel.idxOf j) .dead = l.getD (j - k) .dead) → mergeAux sel st' k l = l := by
 intro l
 induction l with
 | nil => intro k _; rfl
 | cons x l ih =>
  intro k h
  simp only [mergeAux]
  rw [ih (k + 1) (fun j hj hk hl => by
   have := h j hj (by omega) (by simp; omega)
   rw [this, show j - k = (j - (k + 1)) + 1 by omega]; rfl)]
  by_cases hc : sel.contains k = true
  ·rw [if_pos hc]
   have := h k hc (Nat.le_refl _) (by simp)
   rw [Nat.sub_self] at this
   rw [this]; rfl
  ·rw [if_neg hc]
theorem op_pred {K : PV → List PObj → Prop} {fop x : Operand} {ats : Array TypeId} {f : FuncId} {cs : List PV} {v : PV} {b : Bool} {st' : List PObj} (hcs : cs.all (PV.refs (fun _ => false) 5) = true) (hc : PCalls P Gl f [v, .ptr 0 0] [.box cs] fun r s => r = .bool b ∧ s = [.box cs])
  (ho : o.op = .call ⟨.value fop, #[x], ats⟩) (hf : pe env fop = .fn f [.ptr 0 0]) (hx : pe env x = v) (hv : v.refs (fun _ => false) 5 = true) (hent : Enters P f) (hst : st = .box cs :: st') (hK : K (.bool b) st) : OpP P Gl B o env st K := by
 subst hst
 refine op_call [0] ho hf hent (by simp) rfl ?_ ?_ (cargs := [v, .ptr 0 0]) (cst := [.box cs]) ?_ ?_ hc ?_
 ·simp only [List.map_cons, List.map_nil, List.cons_append, List.nil_append, hx, List.all_cons, List.all_nil, Bool.and_true, Bool.and_eq_true]
  exact ⟨PV.refs_mono (fun _ h => by cases h) 5 v hv, rfl⟩
 ·simp only [List.all_cons, List.all_nil, Bool.and_true, List.getD_cons_zero, PObj.refs]
  exact List.all_eq_true.2 fun p hp => PV.refs_mono (fun _ h => by cases h) 5 p (List.all_eq_true.1 hcs p hp)
 ·simp only [List.map_cons, List.map_nil, List.cons_append, List.nil_append, hx, PV.ren_none 5 v hv]
  exact ⟨.inr (.inl rfl), .inr (.inl rfl), trivial⟩
 ·simp only [selSt, List.map_cons, List.map_nil, List.getD_cons_zero, PObj.ren_none hcs]
  exact StLe.refl _
 ·rintro r s ⟨rfl, rfl⟩
  have hm : merge [0] (.box cs :: st') ([.box cs].map (PObj.ren (idxOut [0] (PObj.box cs :: st').length) 5)) = .box cs :: st' := by
   simp only [List.map_cons, List.map_nil, PObj.ren_none hcs, merge, List.length_cons, List.length_nil, List.drop_succ_cons, List.drop_nil, List.append_nil]
   refine mergeAux_id [0] _ _ 0 fun j hj hk hl => ?_
   have : j = 0 := by simpa using hj
   subst this
   rfl
  refine ⟨rfl, ?_, ?_⟩
  ·simp only [List.all_cons, List.all_nil, Bool.and_true, PObj.refs]
   exact List.all_eq_true.2 fun p hp => PV.refs_true (List.all_eq_true.1 hcs p hp)
  ·rw [hm]; exact hK
end pred
end Go.Pw
namespace Go.Pw
theorem box1 {cs : List PV} (h : cs.all (PV.refs (fun _ => false) 5) = true) (d : Nat → Bool) : [PObj.box cs].all (PObj.refs d 5) = true := by
 simp only [List.all_cons, List.all_nil, Bool.and_true, PObj.refs]
 exact List.all_eq_true.2 fun p hp => PV.refs_mono (fun _ h => by cases h) 5 p (List.all_eq_true.1 h p hp)
theorem both {a b : Bool} (h1 : a = true) (h2 : b = true) : (a && b) = true := by rw [h1, h2]; rfl
end Go.Pw
namespace Go.Pw
open Go Go.RowKit
def litV : PV → Value
 | .bool b => .bool b
 | .int k n => .int k n
 | .str s => .string ⟨s.toArray⟩
 | .nilsl => .slice none 0 0
 | _ => undef
def isLit : PV → Bool
 | .bool _ | .int _ _ | .str _ | .nilsl => true
 | _ => false
section
variable {P : Program} {Gl : Glob} {B : Base} {tys : List TI} {env : List PV} {st : List PObj} {A : Nat → Prop} {w : World} {β : List Nat} {tmps : List Value}
theorem Den.lit {p : PV} {v : Value} (h : Den A w β p v) (hp : isLit p = true) : v = litV p := by
 cases h <;> first | rfl | cases hp
theorem den_lit (p : PV) (hp : isLit p = true) : Den A w β p (litV p) := by
 cases p <;> first | (cases hp; done) | exact .bool .. | exact .int .. | exact .str .. | exact .nilsl ..
def GlobW (Gl : Glob) (w : World) : Prop := ∀ b, b < Gl.n → w.heap[b]? = Gl.G b
theorem Inv.globW (hi : Inv Gl B A w β st) : GlobW Gl w := fun b hb => by
 obtain ⟨g1, g2, g3, _⟩ := hi.glob b hb
 exact (hi.keep b g3 g2).trans g1
end
end Go.Pw
namespace Go.Pw
open Go
section rules
variable {P : Program} {Gl : Glob} {B : Base} {tys : List TI} {env : List PV} {st : List PObj} {ops : Array Oper} {rest : List Oper} {o : Oper} {Q : Post}
 {A : Nat → Prop} {w : World} {β : List Nat} {tmps : List Value}
theorem v_indexA {t : TypeId} {x y : Operand} {i off : Nat} {k : IntKind} {n : Int} (hT : Tys P tys) (ho : o.op = .indexAddr t x y) {len e s z1 z2 : Nat} {z3 : Option (List PV)} (ht : tys[t]? = some ⟨.arr len e s, z1, z2, z3⟩)
  (hx : pe env x = .ptr i off) (hy : pe env y = .int k n) (h0 : 0 ≤ n) (h1 : n < len) : OpV P Gl B o env (.ptr i (off + n.toNat * s)) := fun _ A w β tmps _ he => by
 obtain ⟨ti, d, hi1, hu, htk, _⟩ := tyOf_spec (hT _ _ ht)
 obtain ⟨rfl, hse⟩ := tkOf_arr htk
 have hd := he.eval [] x
 rw [hx] at hd
 obtain ⟨bb, hb, hv⟩ := hd.ptr_inv
 refine ⟨.pointer (some ⟨bb, off + n.toNat * s, none⟩), ?_, .ptr _ _ _ _ hb⟩
 have hc : 0 ≤ n ∧ n < ((len : Nat) : Int) := ⟨h0, h1⟩
 simp only [execOp, ho, int_of he hy, hv, Instr.indexAt, asIntOf, Sem.run_bind, Sem.run_pure, Result.andThen_ok, run_underlying hu, Instr.sureAddr, if_pos hc, run_size hse, addr_add]
theorem run_checkKey {b : Bool} {k : TypeId} {s : ByteArray} (hk : P.underlying k = some .string) : (Instr.checkKey b 10000 k (.string s)).run P w = .ok () w :=
 MapKept.run_checkKey hk (show MapKept.IsKey .string (.string s) from trivial) b 9999
end rules
end Go.Pw
namespace Go.Pw
open Go
def PV.plain : Nat → PV → Bool
 | 0, _ => false
 | n + 1, p => match p with
  | .any | .bool _ | .int _ _ | .str _ | .nilptr | .gptr _ _ | .nilsl | .nilmap | .nilfn | .niliface => true
  | .agg cs => cs.all (PV.plain n)
  | .tup cs => cs.all (PV.plain n)
  | _ => false
def PObj.plain : PObj → Bool
 | .box cs => cs.all (PV.plain 4)
 | .dead => true
 | _ => false
section
variable {P : Program} {Gl : Glob} {B : Base} {tys : List TI} {env : List PV} {st : List PObj} {A : Nat → Prop} {w : World} {β β' : List Nat}
theorem Den.plain {A' : Nat → Prop} {w' : World} : ∀ (n : Nat) {p : PV} {v : Value}, Den A w β p v → p.plain n = true → Den A' w' β' p v
 | 0, p, v, _, h => by simp [PV.plain] at h
 | n + 1, p, v, hd, h => by
  cases hd with
  | any => exact .any ..
  | bool => exact .bool ..
  | int => exact .int ..
  | str => exact .str ..
  | nilptr => exact .nilptr ..
  | gptr => exact .gptr ..
  | nilsl => exact .nilsl ..
  | nilmap => exact .nilmap ..
  | nilfn => exact .nilfn ..
  | niliface => exact .niliface ..
  | agg _ cs vs hl hd =>
   simp only [PV.plain] at h
   exact .agg _ _ _ hl fun j c v hc hv => Den.plain n (hd j c v hc hv) (List.all_eq_true.1 h c (List.mem_of_getElem? hc))
  | tup _ cs vs hl hd =>
   simp only [PV.plain] at h
   exact .tup _ _ _ hl fun j c v hc hv => Den.plain n (hd j c v hc hv) (List.all_eq_true.1 h c (List.mem_of_getElem? hc))
  | _ => simp [PV.plain] at h
theorem op_lend {o : Oper} {K : PV → List PObj → Prop} {fop : Operand} {args : Array Operand} {ats : Array TypeId} {f : FuncId} {full full' : List PV} {Q : PV → List PObj → Prop} (F : Nat → Bool) (sel : List Nat) {stF : List PObj}
  (ho : o.op = .call ⟨.value fop, args, ats⟩) (hf : calleeP (pe env fop) (args.toList.map (pe env)) = some (f, full)) (hent : Enters P f) (hnd : sel.Nodup) (hlive : sel.all (fun i => (st.getD i .dead).stays && !(F i)) = true)
  (hsF : FSt F st 0 st stF) (hlF : sel.all (fun i => (stF.getD i .dead).live) = true) (hfF : LeBy (FLe F st 3) full full') (hrefs : full'.all (PV.refs sel.contains 5) = true) (hobjs : sel.all (fun i => (stF.getD i .dead).refs sel.contains 5) = true)
  {cargs : List PV} {cst : List PObj} (hle : Le (full'.map (PV.ren (idxIn sel) 5)) cargs) (hls : StLe (selSt sel stF) cst) (hc : PCalls P Gl f cargs cst Q)
  (hK : ∀ r st', Q r st' → r.plain 3 = true ∧ st'.all PObj.plain = true ∧ K r (mergeAux sel st' 0 st)) :
  OpP P Gl B o env st K := fun A w β tmps Q' hi he => by
 have hlen := hi.len
 obtain ⟨A1, hE1, hden1, hinv1⟩ := hi.freeze F
 have hiF : Inv Gl B A1 w β stF := hinv1 stF hsF
 have hlenF : stF.length = st.length := (FSt.len hsF).symm
 have hso : ∀ i ∈ sel, ∃ x, stF[i]? = some x ∧ x.live = true := fun i h => by
  have := List.all_eq_true.1 hlF i h
  cases hx : stF[i]? with
  | none => simp [List.getD, hx, PObj.live] at this
  | some x => exact ⟨x, rfl, by simpa [List.getD, hx] using this⟩
 have hsb : ∀ i ∈ sel, ∃ b, β[i]? = some b := fun i h => by
  obtain ⟨x, hx, _⟩ := hso i h
  have : i < β.length := by rw [hlen, ← hlenF]; exact (List.getElem?_eq_some_iff.1 hx).1
  exact ⟨_, List.getElem?_eq_getElem this⟩
 let γ : List Nat := sel.map fun i => β.getD i 0
 have hγ : ∀ {j b : Nat}, γ[j]? = some b → ∃ i, sel[j]? = some i ∧ β[i]? = some b := by
  intro j b h
  simp only [γ, List.getElem?_map] at h
  cases hx : sel[j]? with
  | none => rw [hx] at h; cases h
  | some i =>
   rw [hx] at h
   cases h
   obtain ⟨b', hb'⟩ := hsb i (List.mem_of_getElem? hx)
   exact ⟨i, rfl, by simp [List.getD, hb']⟩
 have hin : ∀ (i b : Nat), sel.contains i = true → β[i]? = some b → γ[idxIn sel i]? = some b := by
  intro i b h hb
  have hm : i ∈ sel := by simpa using h
  have hlt := List.idxOf_lt_length_of_mem hm
  simp only [γ, idxIn, List.getElem?_map, List.getElem?_eq_getElem hlt, List.getElem_idxOf hlt, Option.map_some, List.getD, hb, Option.getD_some]
 have hrl : ∀ (y : PObj) (r : Nat → Nat) n, (y.ren r n).live = y.live := fun y r n => by cases y <;> rfl
 have hrs : ∀ (y : PObj) (r : Nat → Nat) n, (y.ren r n).stays = y.stays := fun y r n => by cases y <;> rfl
 have hcst : ∀ {j : Nat} {x : PObj}, (selSt sel stF)[j]? = some x → ∃ i y, sel[j]? = some i ∧ stF[i]? = some y ∧ x = y.ren (idxIn sel) 5 ∧ y.refs sel.contains 5 = true := by
  intro j x h
  simp only [selSt, List.getElem?_map] at h
  cases hx : sel[j]? with
  | none => rw [hx] at h; cases h
  | some i =>
   rw [hx] at h
   cases h
   obtain ⟨y, hy, hl⟩ := hso i (List.mem_of_getElem? hx)
   have hr := List.all_eq_true.1 hobjs i (List.mem_of_getElem? hx)
   simp only [List.getD, hy, Option.getD_some] at hr ⊢
   exact ⟨i, y, rfl, hy, rfl, hr⟩
 have hlv : ∀ {j : Nat}, liveAt (selSt sel stF) j → ∃ i, sel[j]? = some i ∧ liveAt stF i := fun {j} ⟨x, hx, hl⟩ => by
  obtain ⟨i, y, h1, h2, rfl, _⟩ := hcst hx
  exact ⟨i, h1, y, h2, by rw [hrl] at hl; exact hl⟩
 have hjj : ∀ {j k i : Nat}, sel[j]? = some i → sel[k]? = some i → j = k := fun {j k i} h1 h2 => by
  obtain ⟨l1, e1⟩ := List.getElem?_eq_some_iff.1 h1
  obtain ⟨l2, e2⟩ := List.getElem?_eq_some_iff.1 h2
  have hp := List.pairwise_iff_getElem.1 hnd
  rcases Nat.lt_trichotomy j k with h | h | h
  ·exact (hp j k l1 l2 h (e1.trans e2.symm)).elim
  ·exact h
  ·exact (hp k j l2 l1 h (e2.trans e1.symm)).elim
 have hK0 : ∀ {b : Nat}, (base0 A1 w γ (selSt sel stF)).K b → ∃ i, i ∈ sel ∧ β[i]? = some b ∧ liveAt stF i := fun {b} ⟨j, hj, hl⟩ => by
  obtain ⟨i1, s1, b1⟩ := hγ hj
  obtain ⟨i2, s2, l2⟩ := hlv hl
  rw [s1] at s2; cases s2
  exact ⟨i1, List.mem_of_getElem? s1, b1, l2⟩
 have hic0 : Inv Gl (base0 A1 w γ (selSt sel stF)) A1 w γ (selSt sel stF) := by
  have hr := hiF.rebase
  refine ⟨by simp [γ, selSt], ?_, ?_, ?_, ?_, hiF.lt, fun b h => .inl h, fun b h => h, Nat.le_refl _, rfl, rfl, rfl, fun _ _ _ => rfl, ?_, fun i b _ h => h, fun b hb => ⟨fun hk => ?_, hiF.lt b hb⟩⟩
  ·intro j k b h1 h2 l1 l2
   obtain ⟨i1, s1, b1⟩ := hγ h1
   obtain ⟨i2, s2, b2⟩ := hγ h2
   obtain ⟨i1', t1, v1⟩ := hlv l1
   obtain ⟨i2', t2, v2⟩ := hlv l2
   rw [s1] at t1; cases t1
   rw [s2] at t2; cases t2
   have := hiF.inj i1 i2 b b1 b2 v1 v2
   subst this
   exact hjj s1 s2
  ·intro j b x h1 h2
   obtain ⟨i1, s1, b1⟩ := hγ h1
   obtain ⟨i2, y, s2, hy, rfl, hr⟩ := hcst h2
   rw [s1] at s2; cases s2
   exact (hiF.obj i1 b y b1 hy).ren hin hr
  ·intro j b h1 l1
   obtain ⟨i1, s1, b1⟩ := hγ h1
   obtain ⟨i1', t1, v1⟩ := hlv l1
   rw [s1] at t1; cases t1
   exact hiF.notA i1 b b1 v1
  ·intro j b h1 l1; exact .inl ⟨j, h1, l1⟩
  ·intro b hb
   obtain ⟨g1, g2, g3, g4⟩ := hr.glob b hb
   refine ⟨g1, fun hm => ?_, g3, g4⟩
   obtain ⟨i1, s1, b1, v1⟩ := hK0 hm
   exact g2 ⟨i1, b1, v1⟩
  ·obtain ⟨i1, s1, b1, v1⟩ := hK0 hk
   exact hiF.notA i1 b b1 v1 hb
 have hic := (hic0.weaken hls).rebase
 have hKsel : ∀ {b : Nat}, (base0 A1 w γ cst).K b → ∃ i, i ∈ sel ∧ β[i]? = some b ∧ liveAt stF i := fun {b} ⟨j, hj, o, ho, hl⟩ => by
  refine hK0 ⟨j, hj, ?_⟩
  obtain ⟨q, hq, hr⟩ := hls.get j o ho
  rcases hr with rfl | rfl | ⟨cs, ds, rfl, rfl, _⟩
  ·exact ⟨_, hq, hl⟩
  ·cases hl
  ·exact ⟨_, hq, rfl⟩
 -- what lives in the frozen store lives in the store
 have hliveF : ∀ {i : Nat}, liveAt stF i → liveAt st i ∧ F i = false := fun {i} ⟨o, h1, h2⟩ => by
  obtain ⟨x, hx, hh⟩ := FSt.get hsF i o h1
  rw [Nat.zero_add] at hh
  rcases hh with ⟨_, rfl⟩ | ⟨hF, rfl | rfl | ⟨cs, ds, rfl, rfl, _⟩⟩
  ·cases h2
  ·cases h2
  ·exact ⟨⟨_, hx, h2⟩, hF⟩
  ·exact ⟨⟨_, hx, rfl⟩, hF⟩
 obtain ⟨fv, hfl, hfd, hrun⟩ := calleeP_run (P := P) (o := o) he ho hf hent
 have hargs : ArgRel A1 w γ (full'.map (PV.ren (idxIn sel) 5)) fv := by
  have hl' := LeBy.len hfF
  refine ⟨by simp [← hl', hfl], fun j p v hp hv => ?_⟩
  rw [List.getElem?_map] at hp
  cases hx : full'[j]? with
  | none => rw [hx] at hp; cases hp
  | some x =>
   rw [hx] at hp
   cases hp
   obtain ⟨q, hq, hr⟩ := LeBy.get hfF j x hx
   exact Den.ren hin 5 (hden1 3 q x v hr (hfd j q v hq hv)) (List.all_eq_true.1 hrefs x (List.mem_of_getElem? hx))
 have hcall := hc A1 w γ _ hic (hargs.weaken hle)
 unfold Oper.wp
 rw [hrun]
 refine hcall.mono ?_
 rintro e w' ⟨r, v, st', A', β', rfl, hq, hd, hi'⟩
 obtain ⟨hr1, hr2, hk⟩ := hK r st' hq
 have hlen' := hi'.len
 have hP : ∀ (j b : Nat), γ[j]? = some b → β'[j]? = some b := fun j b hj => by
  refine hi'.pre j b ?_ hj
  obtain ⟨i1, s1, b1⟩ := hγ hj
  have hs0 := List.all_eq_true.1 hlive i1 (List.mem_of_getElem? s1)
  rw [Bool.and_eq_true, Bool.not_eq_true'] at hs0
  have hjl : j < cst.length := by rw [← hls.len]; simp only [selSt, List.length_map]; exact (List.getElem?_eq_some_iff.1 s1).1
  have hcj : cst[j]? = some cst[j] := List.getElem?_eq_getElem hjl
  show ((cst[j]?).map PObj.stays).getD false = true
  rw [hcj]
  obtain ⟨q, hq, hr⟩ := hls.get j _ hcj
  simp only [selSt, List.getElem?_map, s1, Option.map_some] at hq
  cases hq
  obtain ⟨y, hy, hyl⟩ := hso i1 (List.mem_of_getElem? s1)
  have hys : y.stays = true := by
   obtain ⟨x, hx, hh⟩ := FSt.get hsF i1 y hy
   rw [Nat.zero_add] at hh
   have h0 := hs0.1
   simp only [List.getD, hx, Option.getD_some] at h0
   rcases hh with ⟨_, rfl⟩ | ⟨hF, rfl | rfl | ⟨cs, ds, rfl, rfl, _⟩⟩
   ·cases hyl
   ·cases hyl
   ·exact h0
   ·rfl
  simp only [List.getD, hy, Option.getD_some] at hr
  rcases hr with hr | hr | ⟨cs, ds, h1, h2, _⟩
  ·show cst[j].stays = true
   rw [← hr, hrs]; exact hys
  ·rw [hr]; rfl
  ·rw [h2]; rfl
 have hAsub : ∀ b, A b → A1 b := hE1.sub
 have hkeepA : ∀ b, A b → w'.heap[b]? = w.heap[b]? := fun b hb => by
  refine hi'.keep b (hi.lt b hb) fun hm => ?_
  obtain ⟨i1, s1, b1, v1⟩ := hKsel hm
  exact hi.notA i1 b b1 (hliveF v1).1 hb
 have hExt : Ext A w A w' := ⟨fun _ h => h, hkeepA⟩
 have hkeep : ∀ {i b : Nat}, β[i]? = some b → liveAt st i → i ∉ sel → w'.heap[b]? = w.heap[b]? := by
  intro i b hb hl hns
  refine hi'.keep b ((hi.obj i b _ hb hl.choose_spec.1).lt hl.choose_spec.2) (fun hm => ?_)
  obtain ⟨i1, s1, b1, v1⟩ := hKsel hm
  have := hi.inj i i1 b hb b1 hl (hliveF v1).1
  subst this
  exact hns s1
 have hsz : w.heap.size ≤ w'.heap.size := hi'.size
 have hmg := mergeAux_get sel st' st 0
 have hml := mergeAux_len sel st' st 0
 -- what lives behind the call lived before it
 have hlvM : ∀ {i : Nat}, liveAt (mergeAux sel st' 0 st) i → i ∈ sel ∨ (liveAt st i ∧ i ∉ sel) := fun {i} ⟨x, hx, hl⟩ => by
  by_cases hm : i ∈ sel
  ·exact .inl hm
  ·rw [hmg, Nat.zero_add] at hx
   rw [show sel.contains i = false by simpa using hm] at hx
   cases hs : st[i]? with
   | none => rw [hs] at hx; cases hx
   | some y => rw [hs] at hx; simp at hx; subst hx; exact .inr ⟨⟨_, hs, hl⟩, hm⟩
 have hselLive : ∀ {i : Nat}, i ∈ sel → liveAt st i := fun {i} h => by
  obtain ⟨x, hx, hl⟩ := hso i h
  exact (hliveF ⟨x, hx, hl⟩).1
 have hall : ∀ {i : Nat}, liveAt (mergeAux sel st' 0 st) i → liveAt st i := fun {i} h => by
  rcases hlvM h with h | h
  ·exact hselLive h
  ·exact h.1
 have hfin : Inv Gl B A w' β (mergeAux sel st' 0 st) := by
  refine ⟨hlen.trans hml.symm, fun i j b h1 h2 l1 l2 => hi.inj i j b h1 h2 (hall l1) (hall l2), ?_, fun i b h1 l1 => hi.notA i b h1 (hall l1), fun i b h1 l1 => hi.own i b h1 (hall l1), fun b hb => Nat.lt_of_lt_of_le (hi.lt b hb) hsz, hi.new, hi.old, Nat.le_trans hi.size hsz,
   hi'.os.trans hi.os, hi'.tape.trans hi.tape, hi'.output.trans hi.output, fun b hb hbk => ?_, hi.glob, hi.pre, hi.apart⟩
  ·intro i b x h1 hx
   by_cases hm : i ∈ sel
   ·rw [hmg, Nat.zero_add, show sel.contains i = true by simpa using hm] at hx
    cases hs : st[i]? with
    | none => rw [hs] at hx; cases hx
    | some y =>
     rw [hs] at hx
     simp only [Option.map_some, if_true, Option.some.injEq] at hx
     have hlt := List.idxOf_lt_length_of_mem hm
     have hgj : γ[sel.idxOf i]? = some b := hin i b (by simpa using hm) h1
     have hbj := hP _ b hgj
     cases hj : st'[sel.idxOf i]? with
     | none => rw [List.getD, hj] at hx; subst hx; trivial
     | some z =>
      rw [List.getD, hj] at hx
      simp only [Option.getD_some] at hx
      subst hx
      have hz := hi'.obj _ b z hbj hj
      have hzp := List.all_eq_true.1 hr2 z (List.mem_of_getElem? hj)
      cases z with
      | dead => trivial
      | box cs =>
       obtain ⟨vs, T, fr, g1, g2, g3, g4⟩ := hz
       refine ⟨vs, T, fr, g1, g2, g3, fun j c v hc hv => (g4 j c v hc hv).plain 4 (List.all_eq_true.1 hzp c (List.mem_of_getElem? hc))⟩
      | _ => simp [PObj.plain] at hzp
   ·rw [hmg, Nat.zero_add, show sel.contains i = false by simpa using hm] at hx
    cases hs : st[i]? with
    | none => rw [hs] at hx; cases hx
    | some y =>
     rw [hs] at hx
     simp at hx
     subst hx
     by_cases hl : y.live = true
     ·exact (hi.obj i b y h1 hs).mono hExt (Pre.refl _) (hkeep h1 ⟨y, hs, hl⟩ hm)
     ·exact (hi.obj i b y h1 hs).still (by simpa using hl)
  ·by_cases hm : (base0 A1 w γ cst).K b
   ·obtain ⟨i1, s1, b1, v1⟩ := hKsel hm
    rcases hi.own i1 b b1 (hliveF v1).1 with hh | hh
    ·exact (hbk hh).elim
    ·omega
   ·exact (hi'.keep b (Nat.lt_of_lt_of_le hb hi.size) hm).trans (hi.keep b hb hbk)
 exact ⟨v, r, mergeAux sel st' 0 st, A, β, rfl, hk, hd.plain 3 hr1, hfin, hExt, Pre.refl _⟩
end
end Go.Pw
namespace Go.Pw
open Go
section
variable {P : Program} {Gl : Glob} {B : Base} {tys : List TI} {env : List PV} {st : List PObj} {ops : Array Oper} {rest : List Oper} {o : Oper} {Q : Post}
def forceV {α : Type} : List PV → (List PV → α) → α
 | [], k => k []
 | x :: xs, k => x.force fun x => forceV xs fun ys => k (x :: ys)
theorem forceV_eq {α : Type} : ∀ (l : List PV) (k : List PV → α), forceV l k = k l
 | [], k => rfl
 | x :: xs, k => by rw [forceV, PV.force_eq, forceV_eq xs]
def litF (env : List PV) (parts : List (Nat × Operand)) : Option (List PV) :=
 match litP env 0 parts with
 | some l => forceV l some
 | none => none
theorem op_litF {K : PV → List PObj → Prop} {T e s b z1 z2 : Nat} {z3 : Option (List PV)} {zl : List PV} {t1 : TK} {e1 e2 : Nat} {len : Nat} {parts : Array (Nat × Operand)} {xs : List PV} (hT : Tys P tys) (ho : o.op = .buildSlice T len parts) (ht : tys[T]? = some ⟨.sl e s b, z1, z2, z3⟩) (hte : tys[e]? = some ⟨t1, e1, e2, some zl⟩)
  (hx : litF env parts.toList = some xs) (hlen : len = parts.toList.length) (hs : 0 < s) (hsz : decide (len * s ≤ 16777216) = true) (h1 : xs.all PV.okPart = true) (h2 : xs.all (PV.refs (fun _ => false) 5) = true) (h3 : xs.all (fun x => x.cells.length == s) = true)
  (hK : K (.sl xs) st) : OpP P Gl B o env st K := by
 refine op_lit hT ho ht hte ?_ hlen hs hsz h1 h2 h3 hK
 unfold litF at hx
 split at hx
 ·rename_i l hl; rw [forceV_eq] at hx; rw [hl]; exact hx
 ·cases hx
theorem op_lend0 {K : PV → List PObj → Prop} {fop : Operand} {args : Array Operand} {ats : Array TypeId} {f : FuncId} {full cargs : List PV} {R : PV → Prop} (hc : PFun P Gl f cargs R)
  (ho : o.op = .call ⟨.value fop, args, ats⟩) (hf : calleeP (pe env fop) (args.toList.map (pe env)) = some (f, full)) (hent : Enters P f) (hfF : LeBy (FLe (fun _ => true) st 3) full cargs)
  (hrefs : cargs.all (PV.refs (fun _ => false) 5) = true) (hK : ∀ r, R r → r.plain 3 = true ∧ K r st) : OpP P Gl B o env st K := by
 have hdead : ∀ (l : List PObj) (n : Nat), FSt (fun _ => true) st n l (l.map fun _ => .dead) := by
  intro l
  induction l with
  | nil => intro n; trivial
  | cons x l ih => intro n; exact ⟨rfl, ih (n + 1)⟩
 have hm0 : ∀ (st' : List PObj) (l : List PObj) n, mergeAux [] st' n l = l := by
  intro st' l
  induction l with
  | nil => intro n; rfl
  | cons x l ih => intro n; simp [mergeAux, ih]
 have hle : Le (cargs.map (PV.ren (idxIn []) 5)) cargs := by
  rw [List.map_congr_left (g := fun x => x) (fun x hx => PV.ren_none 5 x (List.all_eq_true.1 hrefs x hx)), List.map_id']
  clear hrefs hfF hc
  induction cargs with
  | nil => trivial
  | cons x l ih => exact ⟨.inr (.inl rfl), ih⟩
 refine op_lend (fun _ => true) [] ho hf hent List.nodup_nil rfl (hdead st 0) rfl hfF ?_ rfl hle (cst := []) trivial hc ?_
 ·exact List.all_eq_true.2 fun x hx => PV.refs_mono (fun i h => by cases h) 5 x (List.all_eq_true.1 hrefs x hx)
 ·rintro r st' ⟨hR, rfl⟩
  obtain ⟨h1, h2⟩ := hK r hR
  exact ⟨h1, rfl, by rw [hm0]; exact h2⟩
end
end Go.Pw
namespace Go.Pw
open Go
section
variable {P : Program} {Gl : Glob} {B : Base} {tys : List TI} {env : List PV} {st : List PObj} {ops : Array Oper} {rest : List Oper} {o : Oper} {Q : Post}
def killF (F : Nat → Bool) : Nat → List PObj → List PObj
 | _, [] => []
 | i, x :: xs => (match F i with | true => .dead | false => x) :: killF F (i + 1) xs
theorem killF_spec (F : Nat → Bool) (st : List PObj) : ∀ (l : List PObj) (i : Nat), FSt F st i l (killF F i l)
 | [], _ => trivial
 | x :: l, i => by
  refine ⟨?_, killF_spec F st l (i + 1)⟩
  cases F i with
  | true => exact rfl
  | false => exact .inr (.inl rfl)
theorem pw_cut {st0 : List PObj} (hD : ∀ j, B.D j = dOf st0 j) {c : Code} {E env' : List PV} {S st' : List PObj} {n : Nat} (hn : (Nat.ble st0.length n && Nat.beq S.length n) = true)
  (hr : (E.all (PV.refs (fun i => Nat.blt i n) 5) && S.all (PObj.refs (fun i => Nat.blt i n) 5)) = true) (hl : Le env' E) (hs : StLe (st'.take S.length) S) (h : PW P Gl B c E S Q) : PW P Gl B c env' st' Q := fun A w β tmps hi he => by
 have hlt : (fun i => Nat.blt i n) = fun i => decide (i < n) := by
  funext i
  exact Bool.eq_iff_iff.2 (by simp)
 simp only [Bool.and_eq_true] at hn
 have h1 := Nat.eq_of_beq_eq_true hn.2
 have h2 := Nat.le_of_ble_eq_true hn.1
 rw [hlt, ← h1] at hr
 simp only [Bool.and_eq_true] at hr
 exact h A w (β.take S.length) tmps (hi.cut hD (by omega) hs hr.2) (he.cut hl hr.1)
theorem v_takeM {α : Type} {e : α → PV} {t : TypeId} {x : Operand} {hi : Option Operand} {xs : List α} {m : Nat} (hT : Tys P tys) (ho : o.op = .slice t x none hi none) {el s b z1 z2 : Nat} {z3 : Option (List PV)} (ht : tys[t]? = some ⟨.sl el s b, z1, z2, z3⟩)
  (hx : pe env x = .sl (xs.map e)) (hh : bnd env (xs.map e).length hi = some (m : Int)) (h2 : m ≤ xs.length) (hs : ∀ x, (e x).cells.length = s) : OpV P Gl B o env (.sl ((xs.take m).map e)) := by
 have := v_slice (P := P) (Gl := Gl) (B := B) (o := o) (env := env) (l := 0) (h := (m : Int)) hT ho ht hx rfl hh (Int.le_refl _) (by omega) (by simp; omega) (by simp only [List.mem_map]; rintro _ ⟨y, _, rfl⟩; exact hs y)
 simpa [List.map_take] using this
theorem v_dropM {α : Type} {e : α → PV} {t : TypeId} {x : Operand} {lo : Option Operand} {xs : List α} {m : Nat} (hT : Tys P tys) (ho : o.op = .slice t x lo none none) {el s b z1 z2 : Nat} {z3 : Option (List PV)} (ht : tys[t]? = some ⟨.sl el s b, z1, z2, z3⟩)
  (hx : pe env x = .sl (xs.map e)) (hh : bnd env 0 lo = some (m : Int)) (h2 : m ≤ xs.length) (hs : ∀ x, (e x).cells.length = s) : OpV P Gl B o env (.sl ((xs.drop m).map e)) := by
 have := v_slice (P := P) (Gl := Gl) (B := B) (o := o) (env := env) (l := (m : Int)) (h := ((xs.map e).length : Int)) hT ho ht hx hh rfl (by omega) (by simp; omega) (by simp) (by simp only [List.mem_map]; rintro _ ⟨y, _, rfl⟩; exact hs y)
 rw [List.take_of_length_le (by simp)] at this
 simpa [List.map_drop] using this
end
end Go.Pw
