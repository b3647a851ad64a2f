/-
 Parts of a region; both ways of a test inside a region, joined again.
 Functions that look at no object of the caller's.
 Loops whose rounds make objects of their own; the frame at a loop's head.
 The library's proved summaries as contracts over pure values.
 What comes in as data reads as pure values whose cells never change.
 From a contract over pure values to the statement of a law: every input answers true, and reads behind the call as it did.
-/
import Derived.Test.YtkaobkjcjodffaaGreatDoorSPwFrz
import Derived.Below
import Derived.Deep.Draws
import Derived.Carry
import Derived.HandedShaped
import Derived.ProofKit
namespace Go.Pw
open Go
def dstsL : List Oper → List Nat
 | [] => []
 | o :: l => match o.dst with
  | some d => d :: dstsL l
  | none => dstsL l
def dstsOf : Code → List Nat
 | .region _ ops _ => dstsL ops.toList
 | .seq a b => dstsOf a ++ dstsOf b
 | .block _ a => dstsOf a
 | .loop a => dstsOf a
 | .cond _ a b => dstsOf a ++ dstsOf b
 | _ => []
def forceN {α : Type} : List Nat → (List Nat → α) → α
 | [], k => k []
 | x :: xs, k => forceN xs fun ys => k (x :: ys)
def memN (k : Nat) : List Nat → Bool
 | [] => false
 | d :: ds => match Nat.beq k d with | true => true | false => memN k ds
def lookN (k : Nat) : List (Nat × PV) → Option PV
 | [] => none
 | (d, x) :: l => match Nat.beq k d with | true => some x | false => lookN k l
def headK {α : Type} (ds : List Nat) (vs : List (Nat × PV)) : Nat → List PV → (List PV → α) → α
 | _, [], k => k []
 | n, x :: xs, k => match lookN n vs with
  | some y => headK ds vs (n + 1) xs fun l => k (y :: l)
  | none => match memN n ds with
   | true => headK ds vs (n + 1) xs fun l => k (.any :: l)
   | false => headK ds vs (n + 1) xs fun l => k (x :: l)
section rules
variable {P : Program} {Gl : Glob} {B : Base} {tys : List TI} {env : List PV} {st : List PObj} {ops : Array Oper} {rest : List Oper} {o : Oper} {Q : Post}
 {A : Nat → Prop} {w : World} {β : List Nat} {tmps : List Value}
theorem wp_exits {a : Act} {K : Act → World → Prop} {Q1 Q2 : Exit → Act → World → Prop} (h0 : ∀ e a w, Q1 e a w → e = .normal) (hh : o.wp P a w K Q1) : o.wp P a w K Q2 := by
 have hl : ¬ LetsOut Q1 := fun ⟨a, w, h⟩ => by cases h0 _ _ _ h
 have hp : ∀ c a w, ¬ Q1 (.panic c) a w := fun c a w h => by cases h0 _ _ _ h
 unfold Oper.wp at *
 generalize (execOp a.eval o).run P w = r at *
 cases r with
 | ok n w' =>
  cases n <;> simp only [Oper.upon] at hh ⊢ <;>
   first
    | exact hh
    | exact Calls.mono hh (fun e w'' he => by cases e <;> first | exact he | exact (hp _ _ _ he).elim | exact (hl he).elim)
 | halt x w' => cases x <;> simp only [Oper.upon] at hh ⊢ <;> first | exact hh | exact (hp _ _ _ hh).elim
theorem wpList_append {Q1 Q2 : Exit → Act → World → Prop} (h0 : ∀ e a w, Q1 e a w → e = .normal ∧ wpList P ops Q2 rest a w) : ∀ (pre : List Oper) (a : Act) (w : World), wpList P ops Q1 pre a w → wpList P ops Q2 (pre ++ rest) a w
 | [], a, w, h => (h0 _ _ _ h).2
 | o :: pre, a, w, h => by
  unfold wpList at h
  show wpList P ops Q2 (o :: (pre ++ rest)) a w
  unfold wpList
  split at h
  ·rename_i hw
   rw [if_pos hw]
   rcases h with h | ⟨_, a, w, h⟩
   ·exact .inl (wp_exits (fun e a w h => (h0 e a w h).1) (Oper.wp_mono (wpList_append h0 pre) h))
   ·cases (h0 _ _ _ h).1
  ·rename_i hw
   rw [if_neg hw]
   exact wpList_append h0 pre _ _ h
def midOf (K : List PV → List PObj → Prop) : Post
 | .normal, env, st => K env st
 | _, _, _ => False
theorem pl_cut (n : Nat) (K : List PV → List PObj → Prop) (h : PWL P Gl B ops (rest.take n) env st (midOf K)) (hK : ∀ env' st', K env' st' → PWL P Gl B ops (rest.drop n) env' st' Q) : PWL P Gl B ops rest env st Q := fun A w β tmps hi he => by
 have := wpList_append (P := P) (ops := ops) (rest := rest.drop n) (Q1 := Real Gl B (midOf K)) (Q2 := Real Gl B Q) (fun e a w hr => by
  obtain ⟨env', st', A', β', t', rfl, h2, h3, h4⟩ := hr
  cases e with
  | normal => exact ⟨rfl, hK env' st' h2 A' w β' t' h3 h4⟩
  | _ => exact h2.elim) (rest.take n) _ _ (h A w β tmps hi he)
 rwa [List.take_append_drop] at this
theorem pl_weaken {env' : List PV} {st' : List PObj} (hl : Le env env') (hs : StLe st st') (h : PWL P Gl B ops rest env' st' Q) : PWL P Gl B ops rest env st Q :=
 fun A w β tmps hi he => h A w β tmps (hi.weaken hs) (he.weaken hl)
theorem pl_fork (n t d : Nat) {b : Bool} (e1 e0 : Bool) {ds : List Nat} {envM : List PV} (hj : env[t]? = some (.bool b)) (_hds : (forceN (dstsL (rest.take n)) fun l => (l, ())) = (ds, ())) (_hM : (headK ds [] 0 env fun e => (e, ())) = (envM, ()))
  (h1 : b = true → PWL P Gl B ops (rest.take n) (env.set t (.bool true)) st (midOf fun env' st' => Le env' ((envM.set t (.bool true)).set d (.bool e1)) ∧ StLe st' st))
  (h0 : b = false → PWL P Gl B ops (rest.take n) (env.set t (.bool false)) st (midOf fun env' st' => Le env' ((envM.set t (.bool false)).set d (.bool e0)) ∧ StLe st' st))
  (hr : PWL P Gl B ops (rest.drop n) ((envM.set t (.bool b)).set d (.bool (bif b then e1 else e0))) st Q) : PWL P Gl B ops rest env st Q := by
 have hse : env.set t (.bool b) = env := by
  apply List.ext_getElem?
  intro i
  rw [List.getElem?_set]
  split
  ·rename_i e; subst e
   have := (List.getElem?_eq_some_iff.1 hj).1
   rw [if_pos this, hj]
  ·rfl
 cases b with
 | true =>
  refine pl_cut n (fun env' st' => Le env' ((envM.set t (.bool true)).set d (.bool e1)) ∧ StLe st' st) (by have := h1 rfl; rwa [hse] at this) fun env' st' ⟨hl, hs⟩ => ?_
  exact pl_weaken hl hs hr
 | false =>
  refine pl_cut n (fun env' st' => Le env' ((envM.set t (.bool false)).set d (.bool e0)) ∧ StLe st' st) (by have := h0 rfl; rwa [hse] at this) fun env' st' ⟨hl, hs⟩ => ?_
  exact pl_weaken hl hs hr
theorem pl_and (n t d : Nat) {b : Bool} (e1 : Bool) {ds : List Nat} {envM : List PV} (hj : env[t]? = some (.bool b)) (hds : (forceN (dstsL (rest.take n)) fun l => (l, ())) = (ds, ())) (hM : (headK ds [] 0 env fun e => (e, ())) = (envM, ()))
  (h1 : b = true → PWL P Gl B ops (rest.take n) (env.set t (.bool true)) st (midOf fun env' st' => Le env' ((envM.set t (.bool true)).set d (.bool e1)) ∧ StLe st' st))
  (h0 : b = false → PWL P Gl B ops (rest.take n) (env.set t (.bool false)) st (midOf fun env' st' => Le env' ((envM.set t (.bool false)).set d (.bool false)) ∧ StLe st' st))
  (hr : PWL P Gl B ops (rest.drop n) ((envM.set t (.bool b)).set d (.bool (b && e1))) st Q) : PWL P Gl B ops rest env st Q :=
 pl_fork n t d e1 false hj hds hM h1 h0 (by rw [show (bif b then e1 else false) = (b && e1) by cases b <;> rfl]; exact hr)
theorem pl_or (n t d : Nat) {b : Bool} (e0 : Bool) {ds : List Nat} {envM : List PV} (hj : env[t]? = some (.bool b)) (hds : (forceN (dstsL (rest.take n)) fun l => (l, ())) = (ds, ())) (hM : (headK ds [] 0 env fun e => (e, ())) = (envM, ()))
  (h1 : b = true → PWL P Gl B ops (rest.take n) (env.set t (.bool true)) st (midOf fun env' st' => Le env' ((envM.set t (.bool true)).set d (.bool true)) ∧ StLe st' st))
  (h0 : b = false → PWL P Gl B ops (rest.take n) (env.set t (.bool false)) st (midOf fun env' st' => Le env' ((envM.set t (.bool false)).set d (.bool e0)) ∧ StLe st' st))
  (hr : PWL P Gl B ops (rest.drop n) ((envM.set t (.bool b)).set d (.bool (b || e0))) st Q) : PWL P Gl B ops rest env st Q :=
 pl_fork n t d true e0 hj hds hM h1 h0 (by rw [show (bif b then true else e0) = (b || e0) by cases b <;> rfl]; exact hr)
theorem pl_normE {env' : List PV} (h : (forceL env fun e => (e, ())) = (env', ())) (hr : PWL P Gl B ops rest env' st Q) : PWL P Gl B ops rest env st Q := by
 rw [forceL_eq] at h
 cases h
 exact hr
theorem pw_normE {c : Code} {env' : List PV} (h : (forceL env fun e => (e, ())) = (env', ())) (hr : PW P Gl B c env' st Q) : PW P Gl B c env st Q := by
 rw [forceL_eq] at h
 cases h
 exact hr
theorem set_self {t : Nat} {x : PV} (hj : env[t]? = some x) : env.set t x = env := by
 apply List.ext_getElem?
 intro i
 rw [List.getElem?_set]
 split
 ·rename_i e; subst e
  have := (List.getElem?_eq_some_iff.1 hj).1
  rw [if_pos this, hj]
 ·rfl
theorem pl_split (t : Nat) {b : Bool} (hj : env[t]? = some (.bool b)) (h1 : b = true → PWL P Gl B ops rest (env.set t (.bool true)) st Q) (h0 : b = false → PWL P Gl B ops rest (env.set t (.bool false)) st Q) : PWL P Gl B ops rest env st Q := by
 have hs := set_self hj
 cases b with
 | true => have := h1 rfl; rwa [hs] at this
 | false => have := h0 rfl; rwa [hs] at this
theorem po_split {E : List PV → List PObj → List (Nat × Nat) → Prop} (t : Nat) {b : Bool} {ord : List (Nat × Bool)} {L : List (Nat × Nat)} (hj : env[t]? = some (.bool b)) (h1 : b = true → PWO P Gl B ops E ord (env.set t (.bool true)) st L) (h0 : b = false → PWO P Gl B ops E ord (env.set t (.bool false)) st L) : PWO P Gl B ops E ord env st L := by
 have hs := set_self hj
 cases b with
 | true => have := h1 rfl; rwa [hs] at this
 | false => have := h0 rfl; rwa [hs] at this
theorem v_min {T1 T2 : TypeId} {x y : Operand} {k : IntKind} {a b : Int} (ho : o.op = .call ⟨.builtin .min, #[x, y], #[T1, T2]⟩) (ha : pe env x = .int k a) (hb : pe env y = .int k b) : OpV P Gl B o env (.int k (min a b)) := fun _ A w β tmps _ he => by
 refine ⟨.int k (min a b), ?_, .int ..⟩
 have hm : #[x, y].map (⟨tmps.toArray, []⟩ : Act).eval = #[.int k a, .int k b] := by simp [int_of he ha, int_of he hb]
 simp only [execOp, ho, Go.resolve, Sem.run_bind, Sem.run_pure, Result.andThen_ok, invoke, builtin, hm, Builtin.min_, List.foldlM_cons, List.foldlM_nil, Builtin.min2]
 rw [show (if b < a then b else a) = min a b by omega]
theorem v_max {T1 T2 : TypeId} {x y : Operand} {k : IntKind} {a b : Int} (ho : o.op = .call ⟨.builtin .max, #[x, y], #[T1, T2]⟩) (ha : pe env x = .int k a) (hb : pe env y = .int k b) : OpV P Gl B o env (.int k (max a b)) := fun _ A w β tmps _ he => by
 refine ⟨.int k (max a b), ?_, .int ..⟩
 have hm : #[x, y].map (⟨tmps.toArray, []⟩ : Act).eval = #[.int k a, .int k b] := by simp [int_of he ha, int_of he hb]
 simp only [execOp, ho, Go.resolve, Sem.run_bind, Sem.run_pure, Result.andThen_ok, invoke, builtin, hm, Builtin.max_, List.foldlM_cons, List.foldlM_nil, Builtin.max2]
 rw [show (if b > a then b else a) = max a b by omega]
end rules
end Go.Pw
namespace Go.Pw
open Go
theorem PV.refs_mono {d d' : Nat → Bool} (hd : ∀ i, d i = true → d' i = true) : ∀ (n : Nat) (p : PV), p.refs d n = true → p.refs d' n = true := by
 intro n
 induction n with
 | zero => intro p h; simp [PV.refs] at h
 | succ n ih =>
  intro p h
  have lst : ∀ cs : List PV, cs.all (PV.refs d n) = true → cs.all (PV.refs d' n) = true := fun cs hc =>
   List.all_eq_true.2 fun p hp => ih p (List.all_eq_true.1 hc p hp)
  cases p <;> simp only [PV.refs] at h ⊢ <;> first | exact hd _ h | exact lst _ h | exact ih _ h
theorem PV.refs_true {n : Nat} {p : PV} (h : p.refs (fun _ => false) n = true) : p.refs (fun _ => true) n = true := PV.refs_mono (fun _ _ => rfl) n p h
def PFun (P : Program) (Gl : Glob) (f : FuncId) (args : List PV) (R : PV → Prop) : Prop := PCalls P Gl f args [] fun r st => R r ∧ st = []
section rules
variable {P : Program} {Gl : Glob} {B : Base} {tys : List TI} {env : List PV} {st : List PObj} {ops : Array Oper} {rest : List Oper} {o : Oper} {Q : Post}
theorem Enters.of {f : FuncId} {fn : Func} (hf : P.funcs[f]? = some fn) (hn : (fn.name == "runtime.NumGoroutine") = false) (hb : fn.body.isNone = false) : Enters P f := by
 intro args w
 have hn' : ¬ (fn.name = "runtime.NumGoroutine") := by simpa using hn
 have hb' : ¬ (fn.body = none) := by intro h; simp [h] at hb
 simp [callFunc, hf, hn', hb']
theorem PFun.mono {f : FuncId} {args : List PV} {R R' : PV → Prop} (h : PFun P Gl f args R) (hr : ∀ r, R r → R' r) : PFun P Gl f args R' :=
 PCalls.mono h fun _ _ ⟨h1, h2⟩ => ⟨hr _ h1, h2⟩
theorem PFun.of {f : FuncId} {fn : Func} {c : Code} {args : List PV} {R : PV → Prop} (hT : Tys P tys) (hf : P.funcs[f]? = some fn) (hb : fn.body = some c)
  (h : ∀ B, (∀ j, B.D j = dOf [] j) → PW P Gl B c (args ++ List.replicate (fn.ntmps - args.length) .any) [] (retF tys fn.results.toList 0 fun r st => R r ∧ st = [])) : PFun P Gl f args R :=
 PCalls.of hT hf hb 0 (Nat.le_refl _) h
def forceR : Option PV → Option PV
 | some p => p.force some
 | none => none
theorem forceR_eq (x : Option PV) : forceR x = x := by cases x <;> simp [forceR, PV.force_eq]
theorem ret0 {R : PV → Prop} {rs : List ResultVar} (r r' : PV) (h1 : resP tys env st rs = some r) (h2 : R r') (h3 : FLe (fun i => decide (0 ≤ i)) st 3 r r') (h4 : r'.refs (fun i => decide (i < 0)) 5 = true) : retF tys rs 0 (fun r st => R r ∧ st = []) .ret env st :=
 ⟨r, r', [], h1, ⟨h2, rfl⟩, h3, by rw [List.take_zero]; trivial, h4, rfl⟩
theorem ret1 {R : PV → Prop} {rs : List ResultVar} (r : PV) (h1 : forceR (resP tys env st rs) = some r) (h2 : R r) (h4 : r.refs (fun _ => false) 5 = true) : retF tys rs 0 (fun r st => R r ∧ st = []) .ret env st :=
 ret0 r r (by rw [forceR_eq] at h1; exact h1) h2 (.inr (.inl rfl)) (by rw [show (fun i => decide (i < 0)) = fun _ : Nat => false from by funext i; simp]; exact h4)
theorem op_fun {K : PV → List PObj → Prop} {fop : Operand} {args : Array Operand} {ats : Array TypeId} {f : FuncId} {caps : List PV} {R : PV → Prop} {cargs : List PV} (hc : PFun P Gl f cargs R)
  (ho : o.op = .call ⟨.value fop, args, ats⟩) (hf : pe env fop = .fn f caps) (hent : Enters P f) (hle : Le (args.toList.map (pe env) ++ caps) cargs)
  (hrefs : (args.toList.map (pe env) ++ caps).all (PV.refs (fun _ => false) 5) = true) (hK : ∀ r, R r → r.refs (fun _ => false) 5 = true ∧ K r st) : OpP P Gl B o env st K := by
 have h0 : (fun (_ : Nat) => false) = ([] : List Nat).contains := by funext i; rfl
 have hr0 : ∀ p ∈ (args.toList.map (pe env) ++ caps), p.refs (fun _ => false) 5 = true := fun p hp => List.all_eq_true.1 hrefs p hp
 refine op_call [] ho hf hent List.nodup_nil rfl (by rw [← h0]; exact hrefs) rfl (cargs := cargs) (cst := []) ?_ trivial hc ?_
 ·have : (args.toList.map (pe env) ++ caps).map (PV.ren (idxIn []) 5) = args.toList.map (pe env) ++ caps := by
   rw [List.map_congr_left (g := fun x => x) (fun p hp => PV.ren_none 5 p (hr0 p hp))]; simp
  rw [this]; exact hle
 ·rintro r st' ⟨h1, rfl⟩
  obtain ⟨h2, h3⟩ := hK r h1
  refine ⟨?_, rfl, ?_⟩
  ·exact PV.refs_true h2
  ·rw [PV.ren_none 5 r h2]
   have : merge [] st [] = st := by
    have : ∀ (l : List PObj) k, mergeAux [] [] k l = l := by
     intro l
     induction l with
     | nil => intro k; rfl
     | cons x l ih => intro k; simp [mergeAux, ih]
    simp [merge, this]
   simpa [this] using h3
end rules
end Go.Pw
namespace Go.Pw
open Go
section rules
variable {P : Program} {Gl : Glob} {B : Base} {tys : List TI} {env : List PV} {st : List PObj} {Q : Post} {A : Nat → Prop} {w : World} {β : List Nat} {tmps : List Value}
theorem StLe.dead : ∀ (xs : List PObj), StLe xs (xs.map fun _ => .dead)
 | [] => trivial
 | _ :: xs => ⟨.inr (.inl rfl), StLe.dead xs⟩
theorem StLe.append : ∀ {xs ys us vs : List PObj}, StLe xs ys → StLe us vs → StLe (xs ++ us) (ys ++ vs)
 | [], [], _, _, _, h => h
 | _ :: _, _ :: _, _, _, ⟨h1, h2⟩, h => ⟨h1, h2.append h⟩
theorem Inv.cut {st0 st' : List PObj} (hi : Inv Gl B A w β st) (hD : ∀ j, B.D j = dOf st0 j) (hn : st0.length ≤ st'.length) (hs : StLe (st.take st'.length) st') (hr : st'.all (PObj.refs (fun i => decide (i < st'.length)) 5) = true) :
  Inv Gl B A w (β.take st'.length) st' := by
 have h1 : StLe st (st' ++ (st.drop st'.length).map fun _ => .dead) := by
  have := hs.append (StLe.dead (st.drop st'.length))
  rwa [List.take_append_drop] at this
 have h2 := hi.weaken h1
 have ht : (st' ++ (st.drop st'.length).map fun _ => PObj.dead).take st'.length = st' := List.take_left' rfl
 have hg : ∀ {i b : Nat}, (β.take st'.length)[i]? = some b → β[i]? = some b := fun {i b} h => by
  rw [List.getElem?_take] at h
  split at h
  ·exact h
  ·cases h
 have lv : ∀ {i : Nat}, liveAt st' i → liveAt (st' ++ (st.drop st'.length).map fun _ => PObj.dead) i ∧ i < st'.length := fun {i} ⟨o, h1, h2⟩ => by
  have hl := (List.getElem?_eq_some_iff.1 h1).1
  exact ⟨⟨o, by rw [List.getElem?_append_left hl]; exact h1, h2⟩, hl⟩
 refine ⟨?_, ?_, ?_, ?_, ?_, hi.lt, hi.new, hi.old, hi.size, hi.os, hi.tape, hi.output, hi.keep, hi.glob, fun i b h3 h4 => ?_, hi.apart⟩
 ·have := h2.len; simp at this; simp; omega
 ·intro i j b h3 h4 l1 l2; exact h2.inj i j b (hg h3) (hg h4) (lv l1).1 (lv l2).1
 ·intro i b o h3 h4
  have hl := (List.getElem?_eq_some_iff.1 h4).1
  have := (h2.obj i b o (hg h3) (by rw [List.getElem?_append_left hl]; exact h4)).ren (β' := β.take st'.length) (r := fun i => i) (fun k c hk hc => by
   simp only [decide_eq_true_eq] at hk
   rw [List.getElem?_take, if_pos hk]; exact hc) (List.all_eq_true.1 hr o (List.mem_of_getElem? h4))
  rwa [PObj.ren_id] at this
 ·intro i b h3 l1; exact h2.notA i b (hg h3) (lv l1).1
 ·intro i b h3 l1; exact h2.own i b (hg h3) (lv l1).1
 ·have hlt : i < st0.length := by
   rw [hD] at h3
   unfold dOf at h3
   cases hx : st0[i]? with
   | none => rw [hx] at h3; cases h3
   | some x => exact (List.getElem?_eq_some_iff.1 hx).1
  rw [List.getElem?_take, if_pos (by omega)]; exact hi.pre i b h3 h4
theorem EnvRel.cut {n : Nat} {env' : List PV} (he : EnvRel A w β env tmps) (hl : Le env env') (hr : env'.all (PV.refs (fun i => decide (i < n)) 5) = true) : EnvRel A w (β.take n) env' tmps := by
 have h := he.weaken hl
 refine ⟨h.1, fun j p v hp hv => ?_⟩
 exact (h.2 j p v hp hv).refsBelow (List.all_eq_true.1 hr p (List.mem_of_getElem? hp))
theorem pw_for {α : Type} {c : Code} {st0 : List PObj} (hD : ∀ j, B.D j = dOf st0 j) (V : α → List (Nat × PV)) (S : α → List PObj) (I : α → Prop) (μ : α → Nat) (a₀ : α) (h₀ : I a₀) {ds : List Nat} {E : α → List PV} (n : Nat)
  (_hds : (forceN (dstsOf c) fun l => (l, ())) = (ds, ())) (_hV : ∀ a, (headK ds (V a) 0 env fun e => (e, ())) = (E a, ())) (hS : StLe (st.take (S a₀).length) (S a₀)) (hn : ∀ a, (Nat.ble st0.length n && Nat.beq (S a).length n) = true) (hr : ∀ a, ((E a).all (PV.refs (fun i => Nat.blt i n) 5) && (S a).all (PObj.refs (fun i => Nat.blt i n) 5)) = true)
  (hE : Le env (E a₀))
  (round : ∀ a, I a → PW P Gl B c (E a) (S a) (andThen (fun env' st' => ∃ a', I a' ∧ μ a' < μ a ∧ Le env' (E a') ∧ StLe (st'.take (S a').length) (S a')) Q)) : PW P Gl B (.loop c) env st Q := fun A w β tmps hi he => by
 have hlt : (fun i => Nat.blt i n) = fun i => decide (i < n) := by
  funext i
  exact Bool.eq_iff_iff.2 (by simp)
 have hSn : ∀ a, (S a).length = n ∧ st0.length ≤ (S a).length := fun a => by
  have := hn a
  simp only [Bool.and_eq_true] at this
  have h1 := Nat.eq_of_beq_eq_true this.2
  exact ⟨h1, by rw [h1]; exact Nat.le_of_ble_eq_true this.1⟩
 have hr' : ∀ a, (E a).all (PV.refs (fun i => decide (i < (S a).length)) 5) = true ∧ (S a).all (PObj.refs (fun i => decide (i < (S a).length)) 5) = true := fun a => by
  have := hr a
  rw [hlt, ← (hSn a).1] at this
  simpa only [Bool.and_eq_true] using this
 refine wp_loop_ghost (fun x a' w' => ∃ A' β' t', a' = ⟨List.toArray t', []⟩ ∧ I x ∧ Inv Gl B A' w' β' (S x) ∧ EnvRel A' w' β' (E x) t') μ a₀ ⟨A, β.take (S a₀).length, tmps, rfl, h₀, hi.cut hD (hSn _).2 hS (hr' _).2, he.cut hE (hr' _).1⟩ ?_
 rintro x a' w' ⟨A', β', t', rfl, hx, h1, h2⟩
 refine wp_mono (round x hx A' w' β' t' h1 h2) ?_
 rintro e a₂ w₂ r'
 cases e with
 | normal =>
  obtain ⟨env', st', A₂, β₂, t₂, rfl, ⟨x', g1, g2, g3, g4⟩, g5, g6⟩ := r'
  exact ⟨x', ⟨A₂, β₂.take (S x').length, t₂, rfl, g1, g5.cut hD (hSn _).2 g4 (hr' _).2, g6.cut g3 (hr' _).1⟩, g2⟩
 | _ => exact r'
end rules
end Go.Pw
namespace Go.Pw
open Go
section pred
variable {P : Program} {Gl : Glob} {B : Base} {env : List PV} {st : List PObj} {o : Oper}
theorem PObj.ren_none {r : Nat → Nat} {cs : List PV} (h : cs.all (PV.refs (fun _ => false) 5) = true) : (PObj.box cs).ren r 5 = .box cs := by
 simp only [PObj.ren]
 rw [List.map_congr_left (g := fun x => x) (fun p hp => PV.ren_none 5 p (List.all_eq_true.1 h p hp))]; simp
theorem mergeAux_id (sel : List Nat) (st' : List PObj) : ∀ (l : List PObj) k, (∀ j, sel.contains j = true → k ≤ j → j - k < l.length → st'.getD (sel.idxOf j) .dead = l.getD (j - k) .dead) → mergeAux sel st' k l = l := by
 intro l
 induction l with
 | nil => intro k _; rfl
 | cons x l ih =>
  intro k h
  simp only [mergeAux]
  rw [ih (k + 1) (fun j hj hk hl => by
   have := h j hj (by omega) (by simp; omega)
   rw [this, show j - k = (j - (k + 1)) + 1 by omega]; rfl)]
  by_cases hc : sel.contains k = true
  ·rw [if_pos hc]
   have := h k hc (Nat.le_refl _) (by simp)
   rw [Nat.sub_self] at this
   rw [this]; rfl
  ·rw [if_neg hc]
theorem op_pred {K : PV → List PObj → Prop} {fop x : Operand} {ats : Array TypeId} {f : FuncId} {cs : List PV} {v : PV} {b : Bool} {st' : List PObj} (hcs : cs.all (PV.refs (fun _ => false) 5) = true) (hc : PCalls P Gl f [v, .ptr 0 0] [.box cs] fun r s => r = .bool b ∧ s = [.box cs])
  (ho : o.op = .call ⟨.value fop, #[x], ats⟩) (hf : pe env fop = .fn f [.ptr 0 0]) (hx : pe env x = v) (hv : v.refs (fun _ => false) 5 = true) (hent : Enters P f) (hst : st = .box cs :: st') (hK : K (.bool b) st) : OpP P Gl B o env st K := by
 subst hst
 refine op_call [0] ho hf hent (by simp) rfl ?_ ?_ (cargs := [v, .ptr 0 0]) (cst := [.box cs]) ?_ ?_ hc ?_
 ·simp only [List.map_cons, List.map_nil, List.cons_append, List.nil_append, hx, List.all_cons, List.all_nil, Bool.and_true, Bool.and_eq_true]
  exact ⟨PV.refs_mono (fun _ h => by cases h) 5 v hv, rfl⟩
 ·simp only [List.all_cons, List.all_nil, Bool.and_true, List.getD_cons_zero, PObj.refs]
  exact List.all_eq_true.2 fun p hp => PV.refs_mono (fun _ h => by cases h) 5 p (List.all_eq_true.1 hcs p hp)
 ·simp only [List.map_cons, List.map_nil, List.cons_append, List.nil_append, hx, PV.ren_none 5 v hv]
  exact ⟨.inr (.inl rfl), .inr (.inl rfl), trivial⟩
 ·simp only [selSt, List.map_cons, List.map_nil, List.getD_cons_zero, PObj.ren_none hcs]
  exact StLe.refl _
 ·rintro r s ⟨rfl, rfl⟩
  have hm : merge [0] (.box cs :: st') ([.box cs].map (PObj.ren (idxOut [0] (PObj.box cs :: st').length) 5)) = .box cs :: st' := by
   simp only [List.map_cons, List.map_nil, PObj.ren_none hcs, merge, List.length_cons, List.length_nil, List.drop_succ_cons, List.drop_nil, List.append_nil]
   refine mergeAux_id [0] _ _ 0 fun j hj hk hl => ?_
   have : j = 0 := by simpa using hj
   subst this
   rfl
  refine ⟨rfl, ?_, ?_⟩
  ·simp only [List.all_cons, List.all_nil, Bool.and_true, PObj.refs]
   exact List.all_eq_true.2 fun p hp => PV.refs_true (List.all_eq_true.1 hcs p hp)
  ·rw [hm]; exact hK
end pred
end Go.Pw
namespace Go.Pw
theorem box1 {cs : List PV} (h : cs.all (PV.refs (fun _ => false) 5) = true) (d : Nat → Bool) : [PObj.box cs].all (PObj.refs d 5) = true := by
 simp only [List.all_cons, List.all_nil, Bool.and_true, PObj.refs]
 exact List.all_eq_true.2 fun p hp => PV.refs_mono (fun _ h => by cases h) 5 p (List.all_eq_true.1 h p hp)
theorem both {a b : Bool} (h1 : a = true) (h2 : b = true) : (a && b) = true := by rw [h1, h2]; rfl
end Go.Pw
namespace Go.Pw
open Go Go.RowKit
def litV : PV → Value
 | .bool b => .bool b
 | .int k n => .int k n
 | .str s => .string ⟨s.toArray⟩
 | .nilsl => .slice none 0 0
 | _ => undef
def isLit : PV → Bool
 | .bool _ | .int _ _ | .str _ | .nilsl => true
 | _ => false
section
variable {P : Program} {Gl : Glob} {B : Base} {tys : List TI} {env : List PV} {st : List PObj} {A : Nat → Prop} {w : World} {β : List Nat} {tmps : List Value}
theorem Den.lit {p : PV} {v : Value} (h : Den A w β p v) (hp : isLit p = true) : v = litV p := by
 cases h <;> first | rfl | cases hp
theorem den_lit (p : PV) (hp : isLit p = true) : Den A w β p (litV p) := by
 cases p <;> first | (cases hp; done) | exact .bool .. | exact .int .. | exact .str .. | exact .nilsl ..
theorem den_tup {ps : List PV} (hp : ps.all isLit = true) : Den A w β (.tup ps) (.tuple (ps.map litV).toArray) := by
 refine .tup _ _ _ (by simp) fun j c v hc hv => ?_
 rw [List.getElem?_map, hc] at hv
 cases hv
 exact den_lit c (List.all_eq_true.1 hp c (List.mem_of_getElem? hc))
theorem litArgs : ∀ {args : List PV} {vals : List Value}, ArgRel A w β args vals → args.all isLit = true → vals = args.map litV := by
 intro args vals h hl
 apply List.ext_getElem?
 intro i
 rw [List.getElem?_map]
 by_cases hi : i < args.length
 ·have hv : i < vals.length := by rw [← h.1]; exact hi
  rw [List.getElem?_eq_getElem hi, List.getElem?_eq_getElem hv]
  have := (h.2 i _ _ (List.getElem?_eq_getElem hi) (List.getElem?_eq_getElem hv)).lit (List.all_eq_true.1 hl _ (List.getElem_mem hi))
  rw [this]; rfl
 ·have hl2 : args.length = vals.length := h.1
  rw [List.getElem?_eq_none (by omega), List.getElem?_eq_none (by omega)]; rfl
def GlobW (Gl : Glob) (w : World) : Prop := ∀ b, b < Gl.n → w.heap[b]? = Gl.G b
theorem Inv.globW (hi : Inv Gl B A w β st) : GlobW Gl w := fun b hb => by
 obtain ⟨g1, g2, g3, _⟩ := hi.glob b hb
 exact (hi.keep b g3 g2).trans g1
theorem Inv.below {w' : World} (hi : Inv Gl B A w β st) (hb : Below w.heap.size w w') : Inv Gl B A w' β st ∧ Ext A w A w' := by
 have hE : Ext A w A w' := ⟨fun _ h => h, fun b h => hb.block b (hi.lt b h)⟩
 refine ⟨⟨hi.len, hi.inj, fun i b o h1 h2 => ?_, hi.notA, hi.own, fun b h => Nat.lt_of_lt_of_le (hi.lt b h) hb.size, hi.new, hi.old, Nat.le_trans hi.size hb.size, hb.os.trans hi.os, hb.tape.trans hi.tape, hb.output.trans hi.output, fun b h hk => ?_, hi.glob, hi.pre, hi.apart⟩, hE⟩
 ·have := hi.obj i b o h1 h2
  cases hl : o.live with
  | true => exact this.mono hE (.refl _) (hb.block b (this.lt hl))
  | false => exact this.still hl
 ·rw [hb.block b (Nat.lt_of_lt_of_le h hi.size)]; exact hi.keep b h hk
theorem PFun.lib {f : FuncId} {args : List PV} {R : PV → Prop} (ha : args.all isLit = true)
  (h : ∀ w, GlobW Gl w → Calls P f (args.map litV).toArray w fun e w' => ∃ p, e = .returned (litV p) ∧ isLit p = true ∧ R p ∧ Below w.heap.size w w') : PFun P Gl f args R := fun A w β vals hi har => by
 rw [litArgs har ha]
 refine (h w hi.globW).mono ?_
 rintro e w' ⟨p, rfl, hp, hR, hb⟩
 obtain ⟨h1, h2⟩ := hi.below hb
 exact ⟨p, _, [], A, β, rfl, ⟨hR, rfl⟩, den_lit p hp, h1⟩
theorem PFun.libT {f : FuncId} {args : List PV} {R : PV → Prop} (ha : args.all isLit = true)
  (h : ∀ w, GlobW Gl w → Calls P f (args.map litV).toArray w fun e w' => ∃ ps : List PV, e = .returned (.tuple (ps.map litV).toArray) ∧ ps.all isLit = true ∧ R (.tup ps) ∧ Below w.heap.size w w') : PFun P Gl f args R := fun A w β vals hi har => by
 rw [litArgs har ha]
 refine (h w hi.globW).mono ?_
 rintro e w' ⟨p, rfl, hp, hR, hb⟩
 obtain ⟨h1, h2⟩ := hi.below hb
 exact ⟨.tup p, _, [], A, β, rfl, ⟨hR, rfl⟩, den_tup hp, h1⟩
theorem PFun.libRow {f : FuncId} {args : List PV} {R : PV → Prop} {T : TypeId} (ha : args.all isLit = true)
  (h : ∀ w, GlobW Gl w → Calls P f (args.map litV).toArray w fun e w' => ∃ ps : List PV, e = .returned (.slice (some ⟨w.heap.size, 0, none⟩) ps.length ps.length) ∧ ps.all isLit = true ∧ ps.length ≤ maxLen ∧ R (.sl ps) ∧ w' = w.alloc (.cells (ps.map litV).toArray T)) : PFun P Gl f args R := fun A w β vals hi har => by
 rw [litArgs har ha]
 refine (h w hi.globW).mono ?_
 rintro e w' ⟨ps, rfl, hp, hm, hR, rfl⟩
 obtain ⟨A', hi', hE, hA⟩ := hi.fix (.cells (ps.map litV).toArray T)
 refine ⟨.sl ps, _, [], A', β, rfl, ⟨hR, rfl⟩, ?_, hi'⟩
 have hc : ∀ x ∈ ps, x.cells = [x] := fun x hx => by
  have := List.all_eq_true.1 hp x hx
  cases x <;> first | rfl | cases this
 refine .sl _ 1 _ _ _ (fun i _ => (ps.map litV).getD i undef) (fun _ => ⟨hA, rfl⟩) (Nat.le_refl _) hm (fun x hx => by rw [hc x hx]; rfl) (fun i x j c hx hj => ?_) (fun i x j c hx hj => ?_)
 ·have hxm := List.mem_of_getElem? hx
  rw [hc x hxm] at hj
  have hj0 : j = 0 := by have := (List.getElem?_eq_some_iff.1 hj).1; simp at this; exact this
  subst hj0
  have hcell : (w.alloc (.cells (ps.map litV).toArray T)).heap[w.heap.size]? = some (.cells (ps.map litV).toArray T (0, 0)) := by show (w.heap.push _)[w.heap.size]? = _; simp
  rw [obj_cell hcell]
  simp only [Nat.zero_add, Nat.mul_one, Nat.add_zero, List.getElem?_map, hx, Option.map_some, List.getD, Option.getD_some]
 ·have hxm := List.mem_of_getElem? hx
  rw [hc x hxm] at hj
  have hj0 : j = 0 := by have := (List.getElem?_eq_some_iff.1 hj).1; simp at this; exact this
  subst hj0
  simp at hj
  subst hj
  simp only [List.getD, List.getElem?_map, hx, Option.map_some, Option.getD_some]
  exact den_lit x (List.all_eq_true.1 hp x hxm)
end
end Go.Pw
namespace Go.Pw
open Go
def mkE (agg : Bool) (cells : List PV) : PV := match agg with | true => .agg cells | false => cells.headD .any
def laidL : List (Nat × Nat × Bool × TypeId) → Nat → Option Nat
 | [], off => some off
 | (o, s, _, _) :: l, off => if o = off then laidL l (off + s) else none
def rdOk (tys : List TI) : Nat → TypeId → Bool
 | 0, _ => false
 | n + 1, t => match tys[t]? with
  | some ⟨.bool, 1, _, _⟩ => true
  | some ⟨.int _, 1, _, _⟩ => true
  | some ⟨.str, 1, _, _⟩ => true
  | some ⟨.strct l, s, _, _⟩ => laidL l 0 == some s && l.all fun x => rdOk tys n x.2.2.2
  | some ⟨.sl e s _, 1, _, _⟩ => decide (0 < s) && rdOk tys n e && (match tys[e]? with | some ti => ti.size == s && (ti.tk.agg || ti.size == 1) | none => false)
  | _ => false
def WT (tys : List TI) : Nat → TypeId → List PV → Prop
 | 0, _, _ => False
 | n + 1, t, ps => match tys[t]? with
  | some ⟨.bool, _, _, _⟩ => ∃ b, ps = [.bool b]
  | some ⟨.int k, _, _, _⟩ => ∃ m, ps = [.int k m] ∧ (Lit.int k m).wf = true
  | some ⟨.str, _, _, _⟩ => ∃ s, ps = [.str s] ∧ s.length ≤ maxLen
  | some ⟨.strct l, s, _, _⟩ => ps.length = s ∧ ∀ x ∈ l, WT tys n x.2.2.2 ((ps.drop x.1).take x.2.1)
  | some ⟨.sl e s _, _, _, _⟩ => ∃ xs : List PV, ps = [.sl xs] ∧ xs.length ≤ maxLen ∧ ∀ x ∈ xs, x.cells.length = s ∧ WT tys n e x.cells ∧ x = mkE (((tys[e]?).map fun ti => ti.tk.agg).getD false) x.cells
  | _ => False
section
variable {P : Program} {tys : List TI} {H : Type} {enc : TypeId × Value → H} {w : World} {base : Nat} {spare : Nat → Bool} {held : Bool}
def oldB (w : World) (b : Nat) : Prop := b < w.heap.size
def CellsDen (w : World) (ps : List PV) (cs : List Value) : Prop := ps.length = cs.length ∧ ∀ (j : Nat) c v, ps[j]? = some c → cs[j]? = some v → Den (oldB w) w [] c v
theorem CellsDen.one {c : PV} {v : Value} (h : Den (oldB w) w [] c v) : CellsDen w [c] [v] := ⟨rfl, fun j c' v' h1 h2 => by
 cases j with
 | zero => simp at h1 h2; subst h1; subst h2; exact h
 | succ j => simp at h1⟩
theorem CellsDen.append {ps qs : List PV} {cs ds : List Value} (h : CellsDen w ps cs) (g : CellsDen w qs ds) : CellsDen w (ps ++ qs) (cs ++ ds) := by
 refine ⟨by simp [h.1, g.1], fun j c v h1 h2 => ?_⟩
 by_cases hj : j < ps.length
 ·rw [List.getElem?_append_left hj] at h1
  rw [List.getElem?_append_left (by rw [← h.1]; exact hj)] at h2
  exact h.2 j c v h1 h2
 ·rw [List.getElem?_append_right (by omega)] at h1
  rw [List.getElem?_append_right (by rw [← h.1]; omega), ← h.1] at h2
  exact g.2 _ c v h1 h2
theorem drop_take_split {α : Type} (cs : List α) (a n : Nat) : cs.drop a = (cs.drop a).take n ++ cs.drop (a + n) := by
 rw [← List.drop_drop, List.take_append_drop]
theorem read_fields {n fuel : Nat} (cs : List Value) (hR : ∀ t c x, rdOk tys n t = true → DataW.trod enc P w base spare held fuel t c = some x → ∃ ps, CellsDen w ps c ∧ WT tys n t ps) :
  ∀ (fs : List Field) (l : List (Nat × Nat × Bool × TypeId)) (off fin : Nat), fldsOf P fs = some l → laidL l off = some fin → cs.length = fin → off ≤ fin → (l.all fun x => rdOk tys n x.2.2.2) = true →
   (∀ f ∈ fs, ∃ x, DataW.trod enc P w base spare held fuel f.type ((cs.drop f.offset).take (P.cellsOf f.type)) = some x) →
   ∃ ps, CellsDen w ps (cs.drop off) ∧ ∀ x ∈ l, off ≤ x.1 ∧ WT tys n x.2.2.2 ((ps.drop (x.1 - off)).take x.2.1)
 | [], l, off, fin, hl, hlay, hcs, hle, _, _ => by
  cases hl
  simp only [laidL, Option.some.injEq] at hlay
  subst hlay
  exact ⟨[], ⟨by simp [hcs], by simp⟩, by simp⟩
 | f :: fs, l, off, fin, hl, hlay, hcs, hle, hok, hall => by
  unfold fldsOf at hl
  split at hl
  ·rename_i x xs hx hxs
   cases hl
   unfold fldOf at hx
   split at hx
   ·rename_i s d hs hd
    cases hx
    simp only [laidL] at hlay
    split at hlay
    ·rename_i hoff
     simp only [List.all_cons, Bool.and_eq_true] at hok
     obtain ⟨y, hy⟩ := hall f (List.mem_cons_self ..)
     have hcell : P.cellsOf f.type = s := by
      unfold szOf at hs
      simp [Program.cellsOf, hs]
     rw [hcell, hoff] at hy
     obtain ⟨p1, hd1, hw1⟩ := hR _ _ _ hok.1 hy
     have hmono : ∀ (l : List (Nat × Nat × Bool × TypeId)) (a b : Nat), laidL l a = some b → a ≤ b := by
      intro l
      induction l with
      | nil => intro a b h; simp [laidL] at h; omega
      | cons z l ih =>
       intro a b h
       obtain ⟨o, s, g, u⟩ := z
       simp only [laidL] at h
       split at h
       ·have := ih _ _ h; omega
       ·cases h
     have hle2 := hmono _ _ _ hlay
     obtain ⟨p2, hd2, hw2⟩ := read_fields cs hR fs xs (off + s) fin hxs hlay hcs hle2 hok.2 (fun g hg => hall g (List.mem_cons_of_mem _ hg))
     have hl1 : p1.length = s := by rw [hd1.1]; simp; omega
     refine ⟨p1 ++ p2, ?_, ?_⟩
     ·rw [drop_take_split cs off s]
      exact hd1.append hd2
     ·intro z hz
      rcases List.mem_cons.1 hz with rfl | hz
      ·refine ⟨by omega, ?_⟩
       show WT tys n f.type (((p1 ++ p2).drop (f.offset - off)).take s)
       rw [hoff, Nat.sub_self, List.drop_zero, ← hl1, List.take_left]
       exact hw1
      ·obtain ⟨g1, g2⟩ := hw2 z hz
       refine ⟨by omega, ?_⟩
       rw [List.drop_append, show (p1.drop (z.1 - off)) = [] from List.drop_of_length_le (by omega), List.nil_append, hl1, show z.1 - off - s = z.1 - (off + s) by omega]
       exact g2
    ·cases hlay
   ·cases hx
  ·cases hl
theorem add_at (a : Addr) (n : Nat) (h : a.spot = none) : a.add n = ⟨a.block, a.off + n, none⟩ := by
 obtain ⟨b, o, s⟩ := a
 cases h
 exact addr_add b o n
theorem read_den (hT : Tys P tys) : ∀ (n : Nat) (t : TypeId) (fuel : Nat) (cs : List Value) (x : DataW H × List MemPlace), rdOk tys n t = true → DataW.trod enc P w base spare held fuel t cs = some x → ∃ ps, CellsDen w ps cs ∧ WT tys n t ps
 | 0, t, fuel, cs, x, hok, _ => by cases hok
 | n + 1, t, fuel, cs, x, hok, h => by
  unfold rdOk at hok
  unfold WT
  split at hok
  ·rename_i z1 z2 ht
   obtain ⟨i, td, hi1, hu, htk, _⟩ := tyOf_spec (hT _ _ ht)
   have : td = .bool := by
    unfold tkOf at htk
    split at htk <;> first | rfl | (cases htk; done) | (split at htk <;> cases htk)
   subst this
   obtain ⟨b, rfl, _⟩ := DataW.trod_bool hu h
   simp only [ht]
   exact ⟨[.bool b], .one (.bool ..), b, rfl⟩
  ·rename_i k z1 z2 ht
   obtain ⟨i, td, hi1, hu, htk, _⟩ := tyOf_spec (hT _ _ ht)
   obtain rfl := tkOf_int htk
   obtain ⟨m, rfl, _, hwf⟩ := DataW.trod_int hu h
   simp only [ht]
   exact ⟨[.int k m], .one (.int ..), m, rfl, hwf⟩
  ·rename_i z1 z2 ht
   obtain ⟨i, td, hi1, hu, htk, _⟩ := tyOf_spec (hT _ _ ht)
   obtain rfl := tkOf_str htk
   obtain ⟨s, rfl, _, hl⟩ := DataW.trod_string hu h
   simp only [ht]
   refine ⟨[.str s.data.toList], .one ?_, s.data.toList, rfl, by rw [Array.length_toList]; exact hl⟩
   exact .str [] s.data.toList
  ·rename_i l s z1 z2 ht
   obtain ⟨i, td, hi1, hu, htk, hsz, _⟩ := tyOf_spec (hT _ _ ht)
   obtain ⟨fs, rfl, hfs⟩ := tkOf_strct htk
   simp only [Bool.and_eq_true, beq_iff_eq] at hok
   obtain ⟨xs, fuel', rfl, _, hlen, hxl, hfld⟩ := DataW.trod_struct hu h
   have hcl : P.cellsOf t = s := by
    have : s = i.size := hsz
    simp [Program.cellsOf, hi1, this]
   rw [hcl] at hlen
   obtain ⟨ps, hd, hw⟩ := read_fields cs (fun t c x h1 h2 => read_den hT n t fuel' c x h1 h2) fs.toList l 0 s hfs hok.1 hlen (Nat.zero_le _) hok.2 (fun f hf => by
    obtain ⟨j, hj⟩ := List.mem_iff_getElem?.1 hf
    have hj' : fs[j]? = some f := by simpa using hj
    have := hfld j f hj'
    have hjl : j < xs.length := by rw [hxl]; exact (Array.getElem?_eq_some_iff.1 hj').1
    rw [List.getElem?_eq_getElem hjl] at this
    exact ⟨_, this⟩)
   simp only [ht]
   refine ⟨ps, by simpa using hd, by rw [hd.1]; simpa using hlen, fun y hy => ?_⟩
   have := (hw y hy).2
   rwa [Nat.sub_zero] at this
  ·rename_i e s b z1 z2 ht
   obtain ⟨i, td, hi1, hu, htk, _⟩ := tyOf_spec (hT _ _ ht)
   obtain ⟨rfl, ie, hie, hise, _⟩ := tkOf_sl htk
   simp only [Bool.and_eq_true, decide_eq_true_eq] at hok
   obtain ⟨⟨hs0, hoke⟩, hte⟩ := hok
   cases hte0 : tys[e]? with
   | none => rw [hte0] at hte; cases hte
   | some te =>
   rw [hte0] at hte
   simp only [Bool.and_eq_true, beq_iff_eq, Bool.or_eq_true] at hte
   have hce : P.cellsOf e = s := by simp [Program.cellsOf, hie, hise]
   simp only [ht, hte0]
   rcases DataW.trod_slice hu h with ⟨rfl, _⟩ | ⟨a, len, cap, elems, rest, fuel', _, rfl, _, hb, hl, hm, hel, hall, _⟩
   ·exact ⟨[.sl []], .one (.slnil _), [], rfl, Nat.zero_le _, by simp⟩
   ·rw [hce] at hall
    have H1 : ∀ i, i < len → ∃ q : List PV × List Value, w.cells? base (a.add (i * s)) s = some q.2 ∧ CellsDen w q.1 q.2 ∧ WT tys n e q.1 := by
     intro i hi
     have := hall i hi
     rw [List.getElem?_eq_getElem (by omega)] at this
     obtain ⟨cs', h1, h2⟩ := Option.bind_eq_some_iff.1 this
     obtain ⟨ps, h3, h4⟩ := read_den hT n e fuel' cs' _ hoke h2
     exact ⟨(ps, cs'), h1, h3, h4⟩
    let g : Nat → List PV × List Value := fun i => if h : i < len then Classical.choose (H1 i h) else ([], [])
    have hg : ∀ i, i < len → w.cells? base (a.add (i * s)) s = some (g i).2 ∧ CellsDen w (g i).1 (g i).2 ∧ WT tys n e (g i).1 := by
     intro i hi
     have := Classical.choose_spec (H1 i hi)
     simpa [g, hi] using this
    have hlen : ∀ i, i < len → (g i).1.length = s := fun i hi => by
     rw [(hg i hi).2.1.1]; exact (World.cells?_some (hg i hi).1).2.1
    have hmk : ∀ i, i < len → (mkE te.tk.agg (g i).1).cells = (g i).1 := by
     intro i hi
     unfold mkE
     split
     ·rfl
     ·rename_i hagg
      have h1 : s = 1 := by
       rcases hte.2 with h | h
       ·rw [h] at hagg; cases hagg
       ·omega
      have hl1 := hlen i hi
      rw [h1] at hl1
      obtain ⟨c, hc⟩ : ∃ c, (g i).1 = [c] := by
       match hgi : (g i).1, hl1 with
       | [c], _ => exact ⟨c, rfl⟩
      rw [hc]
      have hwt := (hg i hi).2.2
      rw [hc] at hwt
      show c.cells = [c]
      cases n with
      | zero => cases hwt
      | succ n =>
       unfold WT at hwt
       rw [hte0] at hwt
       obtain ⟨tk, sz, by_, zz⟩ := te
       cases tk <;> simp only at hwt hagg
       case bool => obtain ⟨b, hb⟩ := hwt; cases hb; rfl
       case int k => obtain ⟨m, hm, _⟩ := hwt; cases hm; rfl
       case str => obtain ⟨m, hm, _⟩ := hwt; cases hm; rfl
       case sl e2 s2 b2 => obtain ⟨m, hm, _⟩ := hwt; cases hm; rfl
       case strct l2 => cases hagg
    have hspot : len ≠ 0 → a.spot = none ∧ a.block < w.heap.size := by
     intro h0
     have h1 := (hg 0 (by omega)).1
     rw [Nat.zero_mul] at h1
     obtain ⟨_, h2, h3⟩ := World.cells?_some h1
     have h4 := h3 0 hs0
     have h5 : (a.add 0).add 0 = a := rfl
     rw [h5, List.getElem?_eq_getElem (by omega)] at h4
     unfold World.cell? at h4
     split at h4
     ·rename_i c0 T0 fr0 hh
      refine ⟨?_, (Array.getElem?_eq_some_iff.1 hh).1⟩
      split at h4
      ·cases h4
      ·rename_i hsp; simpa using hsp
     ·cases h4
    refine ⟨[.sl ((List.range len).map fun i => mkE te.tk.agg (g i).1)], .one ?_, _, rfl, by rw [List.length_map, List.length_range]; exact Nat.le_trans hl hm, ?_⟩
    ·have hd := Den.sl (A := oldB w) (w := w) [] s ((List.range len).map fun i => mkE te.tk.agg (g i).1) a cap (fun i j => (g i).2.getD j undef) ?_ (by simpa using hl) hm ?_ ?_ ?_
     ·simpa using hd
     ·intro hne
      have : len ≠ 0 := by rintro rfl; exact hne rfl
      exact ⟨(hspot this).2, (hspot this).1⟩
     ·intro y hy
      obtain ⟨i, hi, rfl⟩ := List.mem_map.1 hy
      rw [hmk i (List.mem_range.1 hi)]
      exact hlen i (List.mem_range.1 hi)
     ·intro i y j c hy hc
      rw [List.getElem?_map] at hy
      have hi : i < len := by
       rcases Nat.lt_or_ge i len with h | h
       ·exact h
       ·rw [List.getElem?_eq_none (by simpa using h)] at hy; cases hy
      rw [List.getElem?_range hi] at hy
      cases hy
      rw [hmk i hi] at hc
      have hj : j < s := by rw [← hlen i hi]; exact (List.getElem?_eq_some_iff.1 hc).1
      obtain ⟨_, h2, h3⟩ := World.cells?_some (hg i hi).1
      have h4 := h3 j hj
      have hsp := (hspot (by omega)).1
      rw [add_at a _ hsp, add_at _ _ rfl] at h4
      simp only at h4
      rw [Nat.add_assoc] at h4
      rw [h4, List.getD, List.getElem?_eq_getElem (by omega)]
      rfl
     ·intro i y j c hy hc
      rw [List.getElem?_map] at hy
      have hi : i < len := by
       rcases Nat.lt_or_ge i len with h | h
       ·exact h
       ·rw [List.getElem?_eq_none (by simpa using h)] at hy; cases hy
      rw [List.getElem?_range hi] at hy
      cases hy
      rw [hmk i hi] at hc
      have hd := (hg i hi).2.1
      have hj : j < (g i).2.length := by rw [← hd.1]; exact (List.getElem?_eq_some_iff.1 hc).1
      exact hd.2 j c _ hc (by rw [List.getD, List.getElem?_eq_getElem hj]; rfl)
    ·intro y hy
     obtain ⟨i, hi, rfl⟩ := List.mem_map.1 hy
     have hi' := List.mem_range.1 hi
     refine ⟨by rw [hmk i hi']; exact hlen i hi', by rw [hmk i hi']; exact (hg i hi').2.2, ?_⟩
     show mkE te.tk.agg (g i).1 = mkE te.tk.agg (mkE te.tk.agg (g i).1).cells
     rw [hmk i hi']
  ·cases hok
end
end Go.Pw
namespace Go.Pw
open Go Go.RowKit Go.WideShapes
section
variable {P : Program} {tys : List TI} {H : Type} {enc : TypeId × Value → H} {W : World} {base : Nat} {sp : Nat → Bool}
def aggT (tys : List TI) (t : TypeId) : Bool := ((tys[t]?).map fun ti => ti.tk.agg).getD false
theorem read_arg (hT : Tys P tys) {n : Nat} {t : TypeId} {v : Value} {d : DataW H} {p : List MemPlace} {r : Reach} {b0 : Nat} {held : Bool} (hok : rdOk tys n t = true) (hval : Value.okWide P W r b0 t v) (h : DataW.Trod enc P W base sp held t v d p) :
  ∃ cells, WT tys n t cells ∧ Den (oldB W) W [] (mkE (aggT tys t) cells) v := by
 obtain ⟨fuel, h⟩ := h
 obtain ⟨ps, hd, hw⟩ := read_den hT n t fuel _ _ hok h
 refine ⟨ps, hw, ?_⟩
 have one : ∀ u : Value, v = u → u.cells = #[u] → aggT tys t = false → Den (oldB W) W [] (mkE (aggT tys t) ps) v := by
  intro u hu hc hag
  subst hu
  rw [hc] at hd
  obtain ⟨c, rfl⟩ : ∃ c, ps = [c] := by
   match ps, hd.1 with
   | [c], _ => exact ⟨c, rfl⟩
  rw [hag]
  exact hd.2 0 c v rfl rfl
 cases n with
 | zero => cases hok
 | succ n =>
  unfold rdOk at hok
  split at hok
  ·rename_i z1 z2 ht
   obtain ⟨i, td, hi1, hu, htk, _⟩ := tyOf_spec (hT _ _ ht)
   have : td = .bool := by
    unfold tkOf at htk
    split at htk <;> first | rfl | (cases htk; done) | (split at htk <;> cases htk)
   subst this
   obtain ⟨b, hb⟩ := okWide_bool hu hval
   exact one _ hb rfl (by simp [aggT, ht, TK.agg])
  ·rename_i k z1 z2 ht
   obtain ⟨i, td, hi1, hu, htk, _⟩ := tyOf_spec (hT _ _ ht)
   obtain rfl := tkOf_int htk
   obtain ⟨b, hb⟩ := okWide_int hu hval
   exact one _ hb rfl (by simp [aggT, ht, TK.agg])
  ·rename_i z1 z2 ht
   obtain ⟨i, td, hi1, hu, htk, _⟩ := tyOf_spec (hT _ _ ht)
   obtain rfl := tkOf_str htk
   obtain ⟨b, hb⟩ := okWide_string hu hval
   exact one _ hb rfl (by simp [aggT, ht, TK.agg])
  ·rename_i l s z1 z2 ht
   obtain ⟨i, td, hi1, hu, htk, _⟩ := tyOf_spec (hT _ _ ht)
   obtain ⟨fs, rfl, _⟩ := tkOf_strct htk
   obtain ⟨cs, rfl, _⟩ := okWide_struct hu hval
   have hag : aggT tys t = true := by simp [aggT, ht, TK.agg]
   rw [hag]
   exact .agg [] ps cs.toList hd.1 fun j c u hc hu => hd.2 j c u hc hu
  ·rename_i e s b z1 z2 ht
   obtain ⟨i, td, hi1, hu, htk, _⟩ := tyOf_spec (hT _ _ ht)
   obtain ⟨rfl, _⟩ := tkOf_sl htk
   obtain ⟨a, l, c, hb⟩ := okWide_slice hu hval
   exact one _ hb rfl (by simp [aggT, ht, TK.agg])
  ·cases hok
theorem inv_start (n : Nat) (hn : n ≤ W.heap.size) : Inv ⟨n, fun b => W.heap[b]?⟩ (base0 (oldB W) W [] []) (oldB W) W [] [] := by
 have nolive : ∀ i, ¬ liveAt [] i := fun i ⟨o, h, _⟩ => by simp at h
 refine ⟨rfl, fun i j b h1 => by simp at h1, fun i b o h1 => by simp at h1, fun i b h1 => by simp at h1, fun i b h1 => by simp at h1, fun b h => h, fun b h => .inl h, fun b h => h, Nat.le_refl _, rfl, rfl, rfl, fun _ _ _ => rfl, fun b hb => ⟨rfl, fun ⟨i, _, hl⟩ => nolive i hl, Nat.lt_of_lt_of_le hb hn, Nat.lt_of_lt_of_le hb hn⟩, fun i b _ h => by simp [base0] at h, fun b hb => ⟨fun ⟨i, _, hl⟩ => nolive i hl, hb⟩⟩
theorem calls_of {f : FuncId} {ps : List PV} {vals : List Value} {R : PV → Prop} (n : Nat) (hn : n ≤ W.heap.size) (hc : PFun P ⟨n, fun b => W.heap[b]?⟩ f ps R) (hl : ps.length = vals.length) (hd : ∀ (i : Nat) p v, ps[i]? = some p → vals[i]? = some v → Den (oldB W) W [] p v) :
  Calls P f vals.toArray W fun e W' => ∃ r v A', e = .returned v ∧ R r ∧ Den A' W' [] r v ∧ Below W.heap.size W W' := by
 refine (hc (oldB W) W [] vals (inv_start n hn) ⟨hl, hd⟩).mono ?_
 rintro e W' ⟨r, v, st', A', β', rfl, ⟨hR, rfl⟩, hden, hi⟩
 have hb0 : β' = [] := by have := hi.len; cases β' with | nil => rfl | cons x l => simp at this
 subst hb0
 refine ⟨r, v, A', rfl, hR, hden, ⟨hi.os, hi.tape, hi.output, hi.size, fun k hk => hi.keep k hk fun ⟨i, h, _⟩ => by simp at h⟩⟩
theorem trodAll_below (hl : laidOutB P = true) {W' : World} (hb : Below W.heap.size W W') : ∀ {ts : List TypeId} {vs : List Value} {ds : List (DataW H)} {p : List MemPlace}, (ts.all fun t => P.readableRec t && decide (t < P.types.size)) = true →
  DataW.TrodAll enc P W 0 (fun _ => true) true ts vs ds p → (∀ x ∈ p, x.block < W.heap.size) → DataW.TrodAll enc P W' 0 (fun b => decide (b < W.heap.size)) true ts vs ds p
 | [], [], [], _, _, h, _ => h
 | t :: ts, v :: vs, d :: ds, _, ht, ⟨p, q, h1, h2, e⟩, hlt => by
  simp only [List.all_cons, Bool.and_eq_true, decide_eq_true_eq] at ht
  subst e
  exact ⟨p, q, Below.trod hl ht.1.1 ht.1.2 h1 hb (fun x hx => hlt x (List.mem_append_left _ hx)), trodAll_below hl hb (by simpa using ht.2) h2 (fun x hx => hlt x (List.mem_append_right _ hx)), rfl⟩
end
end Go.Pw
