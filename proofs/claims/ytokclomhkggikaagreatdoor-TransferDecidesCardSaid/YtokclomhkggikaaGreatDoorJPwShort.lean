/-
 The chains of rules that a walk repeats, each under one name.
 Rows copied into arrays of the function's own.
 '==' of structs whose fields are plain.
 Arrays of one's own: their room, elements written, parts given up as rows.
 Package-level arrays of plain values that never change; elements of arrays that are values.
 Maps of the function's own with keys of any plain kind, their ranges, and loops told round by round.
 Elements of arrays that are values, and of package-level arrays.
-/
import Derived.Test.YtokclomhkggikaaGreatDoorJPwFork
import Derived.Test.YtokclomhkggikaaGreatDoorJPwCall
import Derived.Maps.Keyed
import Derived.LoopN
import Derived.Laws.World
import Derived.Test.YtokclomhkggikaaGreatDoorJPwDraw
namespace Go.Pw
open Go
section
variable {P : Program} {Gl : Glob} {B : Base} {tys : List TI} {env : List PV} {st : List PObj} {o : Oper} {K : PV → List PObj → Prop}
theorem op_boxF {t : TypeId} {x : Operand} (ho : o.op = .box t x) {p : PV} (hp : (pe env x).force (fun v => (v, ())) = (p, ())) (hk : p.okPart = true) (hK : K (.ptr st.length 0) (st ++ [.box p.cells])) : OpP P Gl B o env st K :=
 op_box ho (by rw [PV.force_eq] at hp; exact (Prod.mk.inj hp).1) hk hK
theorem op_storeF {t : TypeId} {a x : Operand} (hT : Tys P tys) (ho : o.op = .store t a x) {p : PV} {i off : Nat} {cs : List PV} {ti : TI} (ht : tys[t]? = some ti)
  (ha : pe env a = .ptr i off) (hp : (pe env x).force (fun v => (v, ())) = (p, ())) (hs : st[i]? = some (.box cs)) (hk : p.okPart = true) (h1 : p.cells.all PV.one = true) (hsz : p.cells.length = ti.size) (hle : off + ti.size ≤ cs.length)
  (hK : K .any (st.set i (.box (splice cs off p.cells)))) : OpP P Gl B o env st K :=
 op_store hT ho ht ha (by rw [PV.force_eq] at hp; exact (Prod.mk.inj hp).1) hs hk h1 hsz hle hK
end
structure Kp (X : Prop) : Prop where
 out : X
def keepX : List PV → List PV → List PV
 | x :: xs, y :: ys => match y with
  | .any => keepX xs ys
  | _ => x :: keepX xs ys
 | _, _ => []
def keepY : List PV → List PV
 | y :: ys => match y with
  | .any => keepY ys
  | _ => y :: keepY ys
 | [] => []
theorem LeBy.sel (n : Nat) : ∀ {xs ys : List PV}, keepX xs ys = keepY ys → Nat.beq xs.length ys.length = true → LeBy (PLe (n + 1)) xs ys
 | [], [], _, _ => trivial
 | [], _ :: _, _, h => by cases h
 | _ :: _, [], _, h => by cases h
 | x :: xs, y :: ys, h, hl => by
  have hl' : Nat.beq xs.length ys.length = true := hl
  by_cases hy : y = .any
  ·subst hy
   exact ⟨.inl rfl, LeBy.sel n h hl'⟩
  ·have e1 : keepX (x :: xs) (y :: ys) = x :: keepX xs ys := by cases y <;> first | rfl | exact (hy rfl).elim
   have e2 : keepY (y :: ys) = y :: keepY ys := by cases y <;> first | rfl | exact (hy rfl).elim
   rw [e1, e2] at h
   injection h with h1 h2
   exact ⟨.inr (.inl h1), LeBy.sel n h2 hl'⟩
theorem zNp {G X : Prop} (k : X) (h : Kp X → G := by (intro zk; (first | refine pl_norm rfl ?_ | refine pl_normE rfl ?_); exact Kp.out zk)) : G := h ⟨k⟩
theorem zDn {G X : Prop} (k : X) (h : Kp X → G := by (intro zk; (first | refine po_norm rfl ?_ | refine po_normE rfl ?_); exact Kp.out zk)) : G := h ⟨k⟩
theorem zLe {X : Prop} (h : X := by (first | exact Go.Pw.LeBy.sel 1 rfl rfl | (repeat (first | exact True.intro | refine ⟨.inr (.inl rfl), ?_⟩ | refine ⟨.inl rfl, ?_⟩ | refine ⟨.inr (.inr (.inl ⟨rfl, rfl⟩)), ?_⟩ | refine ⟨.inr (.inr (.inr (.inl ⟨rfl, _, _, rfl⟩))), ?_⟩)))) : X := h
theorem zLes {X : Prop} (h : X := by (repeat (first | exact True.intro | refine ⟨.inl rfl, ?_⟩ | refine ⟨.inr (.inl rfl), ?_⟩))) : X := h
theorem zLok {X : Prop} (h : X := by (repeat (first | exact True.intro | refine ⟨.inr rfl, ?_⟩ | refine ⟨.inl (by decide +kernel), ?_⟩))) : X := h
theorem zGo {G X : Prop} (k : X) (h : Kp X → G := by (intro zk; (repeat (first | refine pl_pure hT rfl ?_ | refine pl_nil ?_ | refine pw_seq ?_ | refine pw_region ?_ | refine pw_block ?_ | refine pl_gpure hT rfl ?_ | refine pw_skip ?_ | (refine pl_op rfl (op_boxF rfl rfl rfl ?_); (first | refine pl_norm rfl ?_ | refine pl_normE rfl ?_)) | (refine pl_op rfl (op_alloc hT rfl rfl ?_); (first | refine pl_norm rfl ?_ | refine pl_normE rfl ?_)) | (refine pl_op rfl (op_storeF hT rfl rfl rfl rfl rfl rfl rfl rfl (Nat.le_of_ble_eq_true rfl) ?_); (first | refine pl_norm rfl ?_ | refine pl_normE rfl ?_)) | (refine pl_op rfl (op_litF hT rfl rfl rfl rfl rfl (by decide) rfl rfl rfl rfl ?_); (first | refine pl_norm rfl ?_ | refine pl_normE rfl ?_)) | (refine pl_op rfl (op_of (v_arith rfl rfl rfl rfl (wrap_i64 (by omega) (by omega))) ?_); (first | refine pl_norm rfl ?_ | refine pl_normE rfl ?_)) | refine pw_condT rfl ?_ | refine pw_condF rfl ?_ | refine pw_exit ?_ | refine pw_ret ?_ | (refine pl_on rfl rfl (op_of (v_arith rfl rfl rfl rfl (wrap_i64 (by omega) (by omega))) ?_); (first | refine pl_norm rfl ?_ | refine pl_normE rfl ?_)))); exact Kp.out zk)) : G := h ⟨k⟩
theorem zDgo {G X : Prop} (k : X) (h : Kp X → G := by (intro zk; (repeat (first | refine po_free hT rfl ?_ | refine po_nil ?_ | (refine po_step rfl rfl (op_boxF rfl rfl rfl ⟨(by (repeat (first | exact True.intro | refine ⟨.inr rfl, ?_⟩ | refine ⟨.inl (by decide +kernel), ?_⟩))), ?_⟩); (first | refine po_norm rfl ?_ | refine po_normE rfl ?_)) | (refine po_step rfl rfl (op_alloc hT rfl rfl ⟨(by (repeat (first | exact True.intro | refine ⟨.inr rfl, ?_⟩ | refine ⟨.inl (by decide +kernel), ?_⟩))), ?_⟩); (first | refine po_norm rfl ?_ | refine po_normE rfl ?_)) | (refine po_step rfl rfl (op_storeF hT rfl rfl rfl rfl rfl rfl rfl rfl (Nat.le_of_ble_eq_true rfl) ⟨(by (repeat (first | exact True.intro | refine ⟨.inr rfl, ?_⟩ | refine ⟨.inl (by decide +kernel), ?_⟩))), ?_⟩); (first | refine po_norm rfl ?_ | refine po_normE rfl ?_)) | (refine po_off rfl rfl rfl (by decide) ?_; (first | refine po_norm rfl ?_ | refine po_normE rfl ?_)) | (refine po_offN rfl rfl rfl ?_; (first | refine po_norm rfl ?_ | refine po_normE rfl ?_)) | (refine po_gval rfl rfl rfl (v_arith rfl rfl rfl rfl (wrap_i64 (by omega) (by omega))) ?_; (first | refine po_norm rfl ?_ | refine po_normE rfl ?_)) | (refine po_val rfl rfl (v_arith rfl rfl rfl rfl (wrap_i64 (by omega) (by omega))) ?_; (first | refine po_norm rfl ?_ | refine po_normE rfl ?_)))); exact Kp.out zk)) : G := h ⟨k⟩
end Go.Pw
namespace Go.Pw
open Go
section
variable {P : Program} {Gl : Glob} {B : Base} {tys : List TI} {env : List PV} {st : List PObj} {ops : Array Oper} {rest : List Oper} {o : Oper} {Q : Post}
def PObj.noMap : PObj → Bool
 | .map _ | .kmap _ _ | .iter _ _ _ _ => false
 | _ => true
theorem Le.wipe (d : Nat → Bool) : ∀ (l : List PV), Le l (l.map (Pw.wipe d))
 | [] => trivial
 | x :: l => by
  refine ⟨?_, Le.wipe d l⟩
  unfold Pw.wipe
  split
  ·exact .inr (.inl rfl)
  ·exact .inl rfl
theorem StLe.wipe (d : Nat → Bool) : ∀ (l : List PObj), l.all PObj.noMap = true → StLe l (l.map (PObj.wipe d))
 | [], _ => trivial
 | x :: l, h => by
  simp only [List.all_cons, Bool.and_eq_true] at h
  refine ⟨?_, StLe.wipe d l h.2⟩
  cases x with
  | dead => exact .inl rfl
  | box cs => exact .inr (.inr ⟨_, _, rfl, rfl, Le.wipe d cs⟩)
  | arr k xs cap => exact .inl rfl
  | map es => cases h.1
  | kmap es c => cases h.1
  | iter m s l c => cases h.1
end
end Go.Pw
namespace Go.Pw
open Go
section
variable {P : Program} {Gl : Glob} {B : Base} {tys : List TI} {env : List PV} {st : List PObj} {Q : Post}
theorem pw_joinX {α : Type} {st0 : List PObj} (hD : ∀ j, B.D j = dOf st0 j) {c y : Code} (φ : α → Prop) (V : α → List (Nat × PV)) (S : α → List PObj) (n : Nat) {ds : List Nat} {E : α → List PV} (_hds : (forceN (dstsOf c) fun l => (l, ())) = (ds, ())) (_hM : ∀ a, (headK ds (V a) 0 env fun e => (e, ())) = (E a, ()))
  (hn : ∀ a, (Nat.ble st0.length n && Nat.beq (S a).length n) = true) (hr : ∀ a, ((E a).all (PV.refs (fun i => Nat.blt i n) 5) && (S a).all (PObj.refs (fun i => Nat.blt i n) 5)) = true)
  (h : PW P Gl B c env st (andThen (fun env' st' => ∃ a, φ a ∧ Le env' (E a) ∧ StLe (st'.take (S a).length) (S a)) Q)) (hK : ∀ a, φ a → PW P Gl B y (E a) (S a) Q) : PW P Gl B c env st (andThen (fun env st => PW P Gl B y env st Q) Q) :=
 h.mono fun e env' st' hh => by
  cases e with
  | normal => obtain ⟨a, h1, h2, h3⟩ := hh; exact pw_cut hD (hn a) (hr a) h2 h3 (hK a h1)
  | _ => exact hh
end
end Go.Pw
namespace Go.Pw
open Go
def eqFs (r : TypeId → PV → PV → Option Bool) (xs ys : List PV) : List (Nat × Nat × Bool × TypeId) → Option Bool
 | [] => some true
 | (o, s, ag, ft) :: l => match part? ag xs o s, part? ag ys o s with
  | some a, some b => match r ft a b, eqFs r xs ys l with
   | some p, some q => some (p && q)
   | _, _ => none
  | _, _ => none
def eqP (tys : List TI) : Nat → TypeId → PV → PV → Option Bool
 | 0, _, _, _ => none
 | d + 1, t, x, y => match tys[t]? with
  | some ⟨.bool, _, _, _⟩ => match x, y with
   | .bool a, .bool b => some (a == b)
   | _, _ => none
  | some ⟨.int _, _, _, _⟩ => match x, y with
   | .int k a, .int k' b => if k = k' then some (a == b) else none
   | _, _ => none
  | some ⟨.str, _, _, _⟩ => match x, y with
   | .str a, .str b => some (a == b)
   | _, _ => none
  | some ⟨.strct l, _, _, _⟩ => match x, y with
   | .agg xs, .agg ys => eqFs (eqP tys d) xs ys l
   | _, _ => none
  | _ => none
def eqOk (P : Program) : Nat → TypeId → Bool
 | 0, _ => false
 | d + 1, t => match P.underlying t with
  | some (.struct fs) => !P.stoodInHeld t && fs.toList.all fun f => f.name != "_" && eqOk P d f.type
  | _ => true
section
variable {P : Program} {Gl : Glob} {B : Base} {tys : List TI} {env : List PV} {o : Oper} {A : Nat → Prop} {w : World} {β : List Nat}
theorem fldsOf_cons {f : Field} {fs : List Field} {l : List (Nat × Nat × Bool × TypeId)} (h : fldsOf P (f :: fs) = some l) : ∃ x l', fldOf P f = some x ∧ fldsOf P fs = some l' ∧ l = x :: l' := by
 unfold fldsOf at h
 split at h
 ·rename_i x xs h1 h2; cases h; exact ⟨x, xs, h1, h2, rfl⟩
 ·cases h
theorem tkOf_bool {d : TypeDesc} (h : TK.bool = tkOf P d) : d = .bool := by
 unfold tkOf at h
 split at h <;> first | rfl | (cases h; done) | (split at h <;> cases h)
theorem eqFs_sound {d N : Nat} {xs ys : List PV} {vs us : List Value} (hx : xs.length = vs.length) (hy : ys.length = us.length) (hxd : ∀ (j : Nat) c v, xs[j]? = some c → vs[j]? = some v → Den A w β c v) (hyd : ∀ (j : Nat) c v, ys[j]? = some c → us[j]? = some v → Den A w β c v)
  (hr : ∀ t x y r vx vy, eqOk P d t = true → eqP tys d t x y = some r → Den A w β x vx → Den A w β y vy → (Op.equalIn (N + d) t vx vy).run P w = .ok r w) :
  ∀ (fs : List Field) (l : List (Nat × Nat × Bool × TypeId)) (r : Bool), (fs.all fun f => f.name != "_" && eqOk P d f.type) = true → fldsOf P fs = some l → eqFs (eqP tys d) xs ys l = some r →
   (Op.eqFields (N + d) vs.toArray us.toArray fs).run P w = .ok r w
 | [], l, r, _, hl, h => by
  cases hl
  cases h
  simp [Op.eqFields]
 | f :: fs, l, r, hok, hl, h => by
  obtain ⟨⟨o, s, ag, ft⟩, l', h1, h2, rfl⟩ := fldsOf_cons hl
  simp only [List.all_cons, Bool.and_eq_true, bne_iff_ne] at hok
  obtain ⟨⟨hn, hoke⟩, hokr⟩ := hok
  unfold fldOf at h1
  split at h1
  ·rename_i s' d' hs hd
   cases h1
   unfold eqFs at h
   split at h
   ·rename_i a b ha hb
    split at h
    ·rename_i p q hp hq
     cases h
     obtain ⟨va, ra, da⟩ := run_part (P := P) xs vs (Nat.le_of_eq hx) hxd hd hs ha
     obtain ⟨vb, rb, db⟩ := run_part (P := P) ys us (Nat.le_of_eq hy) hyd hd hs hb
     have he := hr _ _ _ _ _ _ hoke hp da db
     have hrest := eqFs_sound hx hy hxd hyd hr fs l' q hokr h2 hq
     simp only [Op.eqFields, hn, ne_eq, not_false_eq_true, if_true, Sem.run_bind, ra, rb, he, Result.andThen_ok]
     cases p
     ·simp
     ·simpa using hrest
    ·cases h
   ·cases h
  ·cases h1
theorem eqP_sound (hT : Tys P tys) : ∀ (d : Nat) (N : Nat) (t : TypeId) (x y : PV) (r : Bool) (vx vy : Value), eqOk P d t = true → eqP tys d t x y = some r → Den A w β x vx → Den A w β y vy → (Op.equalIn (N + d) t vx vy).run P w = .ok r w
 | 0, N, t, x, y, r, vx, vy, hok, _, _, _ => by cases hok
 | d + 1, N, t, x, y, r, vx, vy, hok, h, hx, hy => by
  unfold eqP at h
  split at h
  ·rename_i z1 z2 z3 ht
   obtain ⟨i, td, hi1, hu, htk, _⟩ := tyOf_spec (hT _ _ ht)
   obtain rfl := tkOf_bool htk
   split at h
   ·cases h
    rw [hx.bool_inv, hy.bool_inv]
    exact run_equalIn_bool' w (N + d) t _ _ hu
   ·cases h
  ·rename_i k z1 z2 z3 ht
   obtain ⟨i, td, hi1, hu, htk, _⟩ := tyOf_spec (hT _ _ ht)
   obtain rfl := tkOf_int htk
   split at h
   ·split at h
    ·rename_i hk; subst hk; cases h
     rw [hx.int_inv, hy.int_inv]
     exact run_equalIn_int w (N + d) t _ _ _ _ hu
    ·cases h
   ·cases h
  ·rename_i z1 z2 z3 ht
   obtain ⟨i, td, hi1, hu, htk, _⟩ := tyOf_spec (hT _ _ ht)
   obtain rfl := tkOf_str htk
   split at h
   ·rename_i a b
    cases h
    rw [hx.str_inv, hy.str_inv]
    have := run_equalIn_string w (N + d) t (⟨a.toArray⟩ : ByteArray) (⟨b.toArray⟩ : ByteArray) hu
    rw [ByteArray.toList_eq, ByteArray.toList_eq] at this
    exact this
   ·cases h
  ·rename_i l z1 z2 z3 ht
   obtain ⟨i, td, hi1, hu, htk, _⟩ := tyOf_spec (hT _ _ ht)
   obtain ⟨fs, rfl, hfs⟩ := tkOf_strct htk
   unfold eqOk at hok
   rw [hu] at hok
   simp only [Bool.and_eq_true, Bool.not_eq_true'] at hok
   split at h
   ·obtain ⟨vs, rfl, hl1, hd1⟩ := hx.agg_inv
    obtain ⟨us, rfl, hl2, hd2⟩ := hy.agg_inv
    have hf : P.fieldsOf t = fs := by simp [Program.fieldsOf, hu]
    rw [show N + (d + 1) = (N + d) + 1 from rfl, run_equalIn_agg w (N + d) t _ _ (by rw [hf]; exact hu) hok.1, hf]
    exact eqFs_sound hl1 hl2 hd1 hd2 (fun t x y r vx vy h1 h2 h3 h4 => eqP_sound hT d N t x y r vx vy h1 h2 h3 h4) fs.toList l r hok.2 hfs h
   ·cases h
  ·cases h
theorem v_eqS (hT : Tys P tys) {t t' : TypeId} {x y : Operand} {xs ys : List PV} {r : Bool} (ho : o.op = .binOp .eql t x y t') (hx : pe env x = .agg xs) (hy : pe env y = .agg ys) (hok : (eqOk P 10 t && !P.eqGuardType P.depth t) = true) (h : eqP tys 10 t (.agg xs) (.agg ys) = some r) : OpV P Gl B o env (.bool r) := by
 intro st A w β tmps hi he
 simp only [Bool.and_eq_true, Bool.not_eq_true'] at hok
 have hdx := he.eval [] x
 have hdy := he.eval [] y
 rw [hx] at hdx
 rw [hy] at hdy
 have hs := eqP_sound (P := P) hT 10 9990 t _ _ r _ _ hok.1 h hdx hdy
 obtain ⟨vs, hv1, _⟩ := hdx.agg_inv
 obtain ⟨us, hv2, _⟩ := hdy.agg_inv
 rw [hv1, hv2] at hs
 refine ⟨.bool r, ?_, .bool ..⟩
 simp only [execOp, ho, Sem.run_bind, hv1, hv2, run_eqGuard_agg w .eql t x y vs.toArray us.toArray hok.2, Result.andThen_ok, run_eql_struct]
 rw [show (10000 : Nat) = 9990 + 10 from rfl, hs]
 rfl
theorem v_neS (hT : Tys P tys) {t t' : TypeId} {x y : Operand} {xs ys : List PV} {r : Bool} (ho : o.op = .binOp .neq t x y t') (hx : pe env x = .agg xs) (hy : pe env y = .agg ys) (hok : (eqOk P 10 t && !P.eqGuardType P.depth t) = true) (h : eqP tys 10 t (.agg xs) (.agg ys) = some r) : OpV P Gl B o env (.bool !r) := by
 intro st A w β tmps hi he
 simp only [Bool.and_eq_true, Bool.not_eq_true'] at hok
 have hdx := he.eval [] x
 have hdy := he.eval [] y
 rw [hx] at hdx
 rw [hy] at hdy
 have hs := eqP_sound (P := P) hT 10 9990 t _ _ r _ _ hok.1 h hdx hdy
 obtain ⟨vs, hv1, _⟩ := hdx.agg_inv
 obtain ⟨us, hv2, _⟩ := hdy.agg_inv
 rw [hv1, hv2] at hs
 refine ⟨.bool !r, ?_, .bool ..⟩
 simp only [execOp, ho, Sem.run_bind, hv1, hv2, run_eqGuard_agg w .neq t x y vs.toArray us.toArray hok.2, Result.andThen_ok, run_neq_struct]
 rw [show (10000 : Nat) = 9990 + 10 from rfl, hs]
 rfl
end
end Go.Pw
namespace Go.Pw
open Go
section
variable {P : Program} {Gl : Glob} {B : Base} {tys : List TI} {env : List PV} {st : List PObj} {ops : Array Oper} {rest : List Oper} {o : Oper} {Q : Post}
end
end Go.Pw
namespace Go.Pw
open Go
section
variable {P : Program} {Gl : Glob} {B : Base} {env : List PV} {st : List PObj} {ops : Array Oper} {rest : List Oper} {Q : Post}
theorem FLe.wipeF (F : Nat → Bool) (st : List PObj) : ∀ (l : List PV), LeBy (FLe F st 3) l (l.map (Pw.wipe fun i => !(F i)))
 | [] => trivial
 | x :: l => by
  refine ⟨?_, FLe.wipeF F st l⟩
  unfold Pw.wipe
  split
  ·exact .inr (.inl rfl)
  ·exact .inl rfl
end
end Go.Pw
namespace Go.Pw
open Go Go.RowKit
section
variable {P : Program} {Gl : Glob} {B : Base} {tys : List TI} {env : List PV} {st : List PObj} {o : Oper} {A : Nat → Prop} {w : World} {β : List Nat} {tmps : List Value}
structure GRow (Gl : Glob) (g : Nat) (xs : List PV) : Prop where
 lt : g < Gl.n
 lit : xs.all isLit = true
 cell : ∀ w, GlobW Gl w → ∀ (j : Nat) x, xs[j]? = some x → w.cell? ⟨g, j, none⟩ = some (litV x)
theorem GRow.fixed {g : Nat} {xs : List PV} (h : GRow Gl g xs) (hi : Inv Gl B A w β st) : A g := hi.old g (hi.glob g h.lt).2.2.2
theorem v_gload {t : TypeId} {x : Operand} {g : Nat} {xs : List PV} {n e s z2 : Nat} {z3 : Option (List PV)} (hT : Tys P tys) (ho : o.op = .load t x) (ht : tys[t]? = some ⟨.arr n e s, n, z2, z3⟩)
  (hx : pe env x = .gptr g 0) (hg : GRow Gl g xs) (hn : n = xs.length) : OpV P Gl B o env (.agg xs) := fun st A w β tmps hi he => by
 obtain ⟨ti, d, hi1, hu, htk, hts, _⟩ := tyOf_spec (hT _ _ ht)
 have hag : aggD d = true := by rw [← tkOf_agg htk (fun y hy => by subst hy; exact fun h => by cases h)]; rfl
 have hd := he.eval [] x
 rw [hx] at hd
 have hv := hd.gptr_inv
 have hgw := hi.globW
 have hsz : szOf P t = some n := by simp only [szOf, hi1, Option.map_some]; exact congrArg some hts.symm
 obtain ⟨v, hr, hden⟩ := run_loadVar_cells (P := P) (A := A) (w := w) (β := β) xs g 0 (fun j => litV (xs.getD j .any)) (fun j c hc => by rw [Nat.zero_add, hg.cell w hgw j c hc, List.getD, hc]; rfl)
  (fun j c hc => by rw [List.getD, hc]; exact den_lit _ (List.all_eq_true.1 hg.lit c (List.mem_of_getElem? hc))) hu hsz (off := 0) (x := .agg xs) (by rw [hag]; simp [part?, hn])
 refine ⟨v, ?_, hden⟩
 simp only [execOp, ho, hv, Instr.loadAt, Instr.sureAddr, Sem.run_bind, Sem.run_pure, Result.andThen_ok]
 rw [hr]; rfl
end
end Go.Pw
namespace Go.Pw
open Go
structure KT (P : Program) (k : TypeId) (S : Value → Prop) : Prop where
 check : ∀ (w : World) (em : Bool) {v : Value}, S v → (Instr.checkKey em 10000 k v).run P w = .ok () w
 find : ∀ (w : World) {x : Value}, S x → ∀ es : List MapEntry, (∀ e ∈ es, S e.key) →
  ((Instr.findKey k x es).run P w = .ok none w ∧ ∀ e ∈ es, e.key ≠ x) ∨ ∃ j e, (Instr.findKey k x es).run P w = .ok (some (j, e.val)) w ∧ es[j]? = some e ∧ e.key = x
 stays : ∀ (w : World) {v : Value}, S v → (Instr.keyThatStays v v).run P w = .ok v w
theorem KT.str {P : Program} {k : TypeId} (hk : P.underlying k = some .string) : KT P k fun v => ∃ s, v = .string s := by
 have isK : ∀ {v : Value}, (∃ s, v = .string s) → MapKept.IsKey .string v := fun {v} ⟨s, h⟩ => by subst h; trivial
 refine ⟨fun w em _ h => MapKept.run_checkKey hk (isK h) em 9999, fun w x hx es hs => ?_, fun w _ h => MapKept.run_keyThatStays (isK h)⟩
 rcases MapKept.findNow_spec (isK hx) es 0 (fun e he => isK (hs e he)) with ⟨h1, h2⟩ | ⟨j, e0, h1, h2, h3⟩
 ·exact .inl ⟨MapKept.run_findKey hk h1, h2⟩
 ·exact .inr ⟨j, e0, by simpa using MapKept.run_findKey hk h1, h2, h3⟩
section key
variable {A : Nat → Prop} {w : World} {β : List Nat}
theorem den_keyV1 {p : PV} {v u : Value} (h : Den A w β p v) (hu : keyV1 p = some u) : v = u := by
 cases h <;> simp only [keyV1] at hu <;> first | (cases hu; rfl) | cases hu
theorem keyV1_den {p : PV} {u : Value} (hu : keyV1 p = some u) : Den A w β p u := by
 cases p <;> simp only [keyV1] at hu <;> first | (cases hu; done) | skip
 ·cases hu; exact .bool ..
 ·cases hu; exact .int ..
 ·cases hu; exact .str ..
theorem keyVs_get : ∀ {cs : List PV} {vs : List Value}, keyVs cs = some vs → cs.length = vs.length ∧ ∀ (j : Nat) c v, cs[j]? = some c → vs[j]? = some v → keyV1 c = some v
 | [], vs, h => by cases h; exact ⟨rfl, fun j c v hc => by simp at hc⟩
 | p :: l, vs, h => by
  unfold keyVs at h
  split at h
  ·rename_i v vs' h1 h2
   cases h
   obtain ⟨g1, g2⟩ := keyVs_get h2
   refine ⟨by simp [g1], fun j c u hc hu => ?_⟩
   cases j with
   | zero => simp at hc hu; subst hc hu; exact h1
   | succ j => exact g2 j c u (by simpa using hc) (by simpa using hu)
  ·cases h
theorem den_keyV {p : PV} {v u : Value} (h : Den A w β p v) (hu : keyV p = some u) : v = u := by
 unfold keyV at hu
 split at hu
 ·rename_i cs
  split at hu
  ·rename_i vs hvs
   cases hu
   obtain ⟨us, rfl, hl, hd⟩ := h.agg_inv
   obtain ⟨g1, g2⟩ := keyVs_get hvs
   congr 2
   refine List.ext_getElem? fun j => ?_
   by_cases hj : j < cs.length
   ·have e1 : cs[j]? = some cs[j] := List.getElem?_eq_getElem hj
    have e2 : us[j]? = some (us[j]'(by omega)) := List.getElem?_eq_getElem (by omega)
    have e3 : vs[j]? = some (vs[j]'(by omega)) := List.getElem?_eq_getElem (by omega)
    rw [e2, e3, den_keyV1 (hd j _ _ e1 e2) (g2 j _ _ e1 e3)]
   ·rw [List.getElem?_eq_none (by omega), List.getElem?_eq_none (by omega)]
  ·cases hu
 ·exact den_keyV1 h hu
theorem keyV_den {p : PV} {u : Value} (hu : keyV p = some u) : Den A w β p u := by
 unfold keyV at hu
 split at hu
 ·rename_i cs
  split at hu
  ·rename_i vs hvs
   cases hu
   obtain ⟨g1, g2⟩ := keyVs_get hvs
   exact .agg _ _ _ g1 fun j c v hc hv => keyV1_den (g2 j c v hc hv)
  ·cases hu
 ·exact keyV1_den hu
def keyNe1 : PV → PV → Bool
 | .int _ a, .int _ b => !decide (a = b)
 | .str s, .str t => !decide (s = t)
 | .bool a, .bool b => !decide (a = b)
 | _, _ => false
def keyNes : List PV → List PV → Bool
 | a :: l, b :: m => keyNe1 a b || keyNes l m
 | _, _ => false
def keyNe : PV → PV → Bool
 | .agg cs, .agg ds => keyNes cs ds
 | a, b => keyNe1 a b
theorem keyNe1_ne {a b : PV} {u v : Value} (h : keyNe1 a b = true) (hu : keyV1 a = some u) (hv : keyV1 b = some v) : u ≠ v := by
 unfold keyNe1 at h
 split at h
 ·cases hu; cases hv; intro e; injection e with _ e; simp [e] at h
 ·cases hu; cases hv
  intro e
  injection e with e
  have := congrArg (fun x : ByteArray => x.data.toList) e
  simp at this
  simp [this] at h
 ·cases hu; cases hv; intro e; injection e with e; simp [e] at h
 ·cases h
theorem keyNes_ne : ∀ {a b : List PV} {u v : List Value}, keyNes a b = true → keyVs a = some u → keyVs b = some v → u ≠ v
 | a :: l, b :: m, u, v, h, hu, hv => by
  unfold keyVs at hu hv
  split at hu
  ·rename_i x xs h1 h2
   cases hu
   split at hv
   ·rename_i y ys h3 h4
    cases hv
    intro e
    injection e with e1 e2
    unfold keyNes at h
    rw [Bool.or_eq_true] at h
    rcases h with h | h
    ·exact keyNe1_ne h h1 h3 e1
    ·exact keyNes_ne h h2 h4 e2
   ·cases hv
  ·cases hu
 | [], [], _, _, h, _, _ => by cases h
 | [], _ :: _, _, _, h, _, _ => by cases h
 | _ :: _, [], _, _, h, _, _ => by cases h
theorem keyNe_ne {a b : PV} {u v : Value} (h : keyNe a b = true) (hu : keyV a = some u) (hv : keyV b = some v) : u ≠ v := by
 unfold keyNe at h
 split at h
 ·rename_i cs ds
  simp only [keyV] at hu hv
  split at hu
  ·rename_i us h1
   cases hu
   split at hv
   ·rename_i vs h2
    cases hv
    intro e
    injection e with e
    exact keyNes_ne h h1 h2 (by simpa using congrArg Array.toList e)
   ·cases hv
  ·cases hu
 ·revert h
  cases a <;> cases b <;> intro h <;> first | (cases h; done) | exact keyNe1_ne h hu hv
end key
section rules
variable {P : Program} {Gl : Glob} {B : Base} {tys : List TI} {env : List PV} {st : List PObj} {ops : Array Oper} {rest : List Oper} {o : Oper} {Q : Post}
 {A : Nat → Prop} {w : World} {β : List Nat} {tmps : List Value}
theorem map_of (he : EnvRel A w β env tmps) {m : Operand} {i : Nat} (hm : pe env m = .map i) : ∃ b, β[i]? = some b ∧ (⟨tmps.toArray, []⟩ : Act).eval m = .map (some b) := by
 have hdm := he.eval [] m
 rw [hm] at hdm
 generalize (⟨tmps.toArray, []⟩ : Act).eval m = u at hdm
 cases hdm with | map _ _ b hb => exact ⟨b, hb, rfl⟩
def others : Nat → List (Nat × PV × PV) → List (Nat × PV × PV)
 | _, [] => []
 | 0, _ :: l => l
 | j + 1, e :: l => e :: others j l
theorem heap_lt {w : World} {b : Nat} {x : Obj} (h : w.heap[b]? = some x) : b < w.heap.size := by
 rcases Nat.lt_or_ge b w.heap.size with q | q
 ·exact q
 ·rw [Array.getElem?_eq_none q] at h; cases h
def memNat (n : Nat) : List Nat → Bool
 | [] => false
 | x :: l => match Nat.beq n x with | true => true | false => memNat n l
def leftE (seen : List Nat) : List (Nat × PV × PV) → List (Nat × PV × PV)
 | [] => []
 | e :: l => match memNat e.1 seen with | true => leftE seen l | false => e :: leftE seen l
theorem run_choose {n : Nat} (h : 0 < n) (w : World) : ∃ (j : Nat) (w1 : World), j < n ∧ (w1 = w ∨ w1 = w.drew) ∧ (choose (Question.mapNext n)).run P w = .ok j w1 := by
 by_cases hf : n ≤ 1
 ·exact ⟨0, w, h, Or.inl rfl, by simp [choose, Sem.run, Question.forced, hf]⟩
 ·exact ⟨_, w.drew, Nat.mod_lt _ h, Or.inr rfl, by
   simp only [choose, Sem.run, Question.forced, decide_eq_true_eq, hf, if_false, Question.cut]
   rfl⟩
def findB (n : Nat) : List (Nat × PV × PV) → Option (PV × PV)
 | [] => none
 | e :: l => match Nat.beq e.1 n with | true => some e.2 | false => findB n l
def PWR (P : Program) (Gl : Glob) (B : Base) (c : Code) (Q : Post) : Nat → List PV → List PObj → Prop
 | 0, _, _ => False
 | n + 1, env, st => PW P Gl B c env st (andThen (PWR P Gl B c Q n) Q)
theorem pw_rounds (n : Nat) {c : Code} (h : PWR P Gl B c Q n env st) : PW P Gl B (.loop c) env st Q := fun A w β tmps hi he => by
 refine wp_loop_rounds n ?_
 have key : ∀ n env st A w β tmps, PWR P Gl B c Q n env st → Inv Gl B A w β st → EnvRel A w β env tmps → Code.rounds P c (Real Gl B Q) n ⟨tmps.toArray, []⟩ w := by
  intro n
  induction n with
  | zero => intro env st A w β tmps h _ _; exact h.elim
  | succ n ih =>
   intro env st A w β tmps h hi he
   rw [rounds_succ]
   refine wp_mono (h A w β tmps hi he) ?_
   rintro e a' w' ⟨env', st', A', β', t', rfl, h2, h3, h4⟩
   cases e with
   | normal => exact ih env' st' A' w' β' t' h2 h3 h4
   | _ => exact ⟨env', st', A', β', t', rfl, h2, h3, h4⟩
 exact key n env st A w β tmps h hi he
theorem pw_round {c : Code} {n : Nat} (h : PW P Gl B c env st (andThen (PWR P Gl B c Q n) Q)) : PWR P Gl B c Q (n + 1) env st := h
attribute [irreducible] PWR
end rules
end Go.Pw
namespace Go.Pw
open Go
section
variable {P : Program} {Gl : Glob} {B : Base} {tys : List TI} {env : List PV} {st : List PObj} {o : Oper} {A : Nat → Prop} {w : World} {β : List Nat} {tmps : List Value}
theorem v_indexV {t : TypeId} {x y : Operand} {cs : List PV} {k : IntKind} {i : Int} {p : PV} {te : TI} (hT : Tys P tys) (ho : o.op = .index t x y) {len e s z1 z2 : Nat} {z3 : Option (List PV)} (ht : tys[t]? = some ⟨.arr len e s, z1, z2, z3⟩) (hte : tys[e]? = some te) (hkn : te.tk.known = true)
  (hx : pe env x = .agg cs) (hy : pe env y = .int k i) (h0 : 0 ≤ i) (h1 : i < len) (hp : part? te.tk.agg cs (i.toNat * s) te.size = some p) : OpV P Gl B o env p := fun _ A w β tmps _ he => by
 obtain ⟨ti, d, hi1, hu, htk, _⟩ := tyOf_spec (hT _ _ ht)
 obtain ⟨rfl, hse⟩ := tkOf_arr htk
 obtain ⟨ti2, d2, hi2, hu2, htk2, hts2, _⟩ := tyOf_spec (hT _ _ hte)
 have hd := he.eval [] x
 rw [hx] at hd
 obtain ⟨vs, hv, hl, hds⟩ := hd.agg_inv
 have hag : aggD d2 = te.tk.agg := (tkOf_agg htk2 (fun y hy ho => by rw [hy, ho] at hkn; cases hkn)).symm
 have hsz : szOf P e = some te.size := by simp only [szOf, hi2, Option.map_some]; exact congrArg some hts2.symm
 obtain ⟨v, hr, hden⟩ := run_part (P := P) (A := A) (w := w) (β := β) cs vs (Nat.le_of_eq hl) hds hu2 hsz (off := i.toNat * s) (x := p) (by rw [hag]; exact hp)
 refine ⟨v, ?_, hden⟩
 have hc : 0 ≤ i ∧ i < ((len : Nat) : Int) := ⟨h0, h1⟩
 simp only [execOp, ho, int_of he hy, hv, Instr.index, asIntOf, Sem.run_bind, Sem.run_pure, Result.andThen_ok, run_underlying hu, if_pos hc, run_size hse, hr]
theorem v_gaddr {t : TypeId} {x y : Operand} {g off : Nat} {k : IntKind} {n : Int} (hT : Tys P tys) (ho : o.op = .indexAddr t x y) {len e s z1 z2 : Nat} {z3 : Option (List PV)} (ht : tys[t]? = some ⟨.arr len e s, z1, z2, z3⟩)
  (hx : pe env x = .gptr g off) (hy : pe env y = .int k n) (h0 : 0 ≤ n) (h1 : n < len) : OpV P Gl B o env (.gptr g (off + n.toNat * s)) := fun _ A w β tmps _ he => by
 obtain ⟨ti, d, hi1, hu, htk, _⟩ := tyOf_spec (hT _ _ ht)
 obtain ⟨rfl, hse⟩ := tkOf_arr htk
 have hd := he.eval [] x
 rw [hx] at hd
 have hv := hd.gptr_inv
 refine ⟨.pointer (some ⟨g, off + n.toNat * s, none⟩), ?_, .gptr ..⟩
 have hc : 0 ≤ n ∧ n < ((len : Nat) : Int) := ⟨h0, h1⟩
 simp only [execOp, ho, int_of he hy, hv, Instr.indexAt, asIntOf, Sem.run_bind, Sem.run_pure, Result.andThen_ok, run_underlying hu, Instr.sureAddr, if_pos hc, run_size hse, addr_add]
theorem v_gcell {t : TypeId} {x : Operand} {g off : Nat} {xs : List PV} {p : PV} {te : TI} (hT : Tys P tys) (ho : o.op = .load t x) (ht : tys[t]? = some te) (hkn : te.tk.known = true) (hx : pe env x = .gptr g off) (hg : GRow Gl g xs) (hp : part? te.tk.agg xs off te.size = some p) : OpV P Gl B o env p := fun st A w β tmps hi he => by
 obtain ⟨ti, d, hi1, hu, htk, hts, _⟩ := tyOf_spec (hT _ _ ht)
 have hag : aggD d = te.tk.agg := (tkOf_agg htk (fun y hy ho => by rw [hy, ho] at hkn; cases hkn)).symm
 have hd := he.eval [] x
 rw [hx] at hd
 have hv := hd.gptr_inv
 have hgw := hi.globW
 have hsz : szOf P t = some te.size := by simp only [szOf, hi1, Option.map_some]; exact congrArg some hts.symm
 obtain ⟨v, hr, hden⟩ := run_loadVar_cells (P := P) (A := A) (w := w) (β := β) xs g 0 (fun j => litV (xs.getD j .any)) (fun j c hc => by rw [Nat.zero_add, hg.cell w hgw j c hc, List.getD, hc]; rfl)
  (fun j c hc => by rw [List.getD, hc]; exact den_lit _ (List.all_eq_true.1 hg.lit c (List.mem_of_getElem? hc))) hu hsz (off := off) (x := p) (by rw [hag]; exact hp)
 refine ⟨v, ?_, hden⟩
 rw [Nat.zero_add] at hr
 simp only [execOp, ho, hv, Instr.loadAt, Instr.sureAddr, Sem.run_bind, Sem.run_pure, Result.andThen_ok]
 rw [hr]; rfl
end
end Go.Pw
