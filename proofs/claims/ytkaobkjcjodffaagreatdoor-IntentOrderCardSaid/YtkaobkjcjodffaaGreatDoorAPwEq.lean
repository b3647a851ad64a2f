/-
 '==' of structs whose fields are plain.
 Arrays of one's own: their room, elements written, parts given up as rows.
-/
import Derived.Test.YtkaobkjcjodffaaGreatDoorAPwCall
import Derived.Test.YtkaobkjcjodffaaGreatDoorAPwLend
namespace Go.Pw
open Go
def eqFs (r : TypeId → PV → PV → Option Bool) (xs ys : List PV) : List (Nat × Nat × Bool × TypeId) → Option Bool
 | [] => some true
 | (o, s, ag, ft) :: l => match part? ag xs o s, part? ag ys o s with
  | some a, some b => match r ft a b, eqFs r xs ys l with
   | some p, some q => some (p && q)
   | _, _ => none
  | _, _ => none
def eqP (tys : List TI) : Nat → TypeId → PV → PV → Option Bool
 | 0, _, _, _ => none
 | d + 1, t, x, y => match tys[t]? with
  | some ⟨.bool, _, _, _⟩ => match x, y with
   | .bool a, .bool b => some (a == b)
   | _, _ => none
  | some ⟨.int _, _, _, _⟩ => match x, y with
   | .int k a, .int k' b => if k = k' then some (a == b) else none
   | _, _ => none
  | some ⟨.str, _, _, _⟩ => match x, y with
   | .str a, .str b => some (a == b)
   | _, _ => none
  | some ⟨.strct l, _, _, _⟩ => match x, y with
   | .agg xs, .agg ys => eqFs (eqP tys d) xs ys l
   | _, _ => none
  | _ => none
def eqOk (P : Program) : Nat → TypeId → Bool
 | 0, _ => false
 | d + 1, t => match P.underlying t with
  | some (.struct fs) => !P.stoodInHeld t && fs.toList.all fun f => f.name != "_" && eqOk P d f.type
  | _ => true
section
variable {P : Program} {Gl : Glob} {B : Base} {tys : List TI} {env : List PV} {o : Oper} {A : Nat → Prop} {w : World} {β : List Nat}
theorem fldsOf_cons {f : Field} {fs : List Field} {l : List (Nat × Nat × Bool × TypeId)} (h : fldsOf P (f :: fs) = some l) : ∃ x l', fldOf P f = some x ∧ fldsOf P fs = some l' ∧ l = x :: l' := by
 unfold fldsOf at h
 split at h
 ·rename_i x xs h1 h2; cases h; exact ⟨x, xs, h1, h2, rfl⟩
 ·cases h
theorem tkOf_bool {d : TypeDesc} (h : TK.bool = tkOf P d) : d = .bool := by
 unfold tkOf at h
 split at h <;> first | rfl | (cases h; done) | (split at h <;> cases h)
theorem eqFs_sound {d N : Nat} {xs ys : List PV} {vs us : List Value} (hx : xs.length = vs.length) (hy : ys.length = us.length) (hxd : ∀ (j : Nat) c v, xs[j]? = some c → vs[j]? = some v → Den A w β c v) (hyd : ∀ (j : Nat) c v, ys[j]? = some c → us[j]? = some v → Den A w β c v)
  (hr : ∀ t x y r vx vy, eqOk P d t = true → eqP tys d t x y = some r → Den A w β x vx → Den A w β y vy → (Op.equalIn (N + d) t vx vy).run P w = .ok r w) :
  ∀ (fs : List Field) (l : List (Nat × Nat × Bool × TypeId)) (r : Bool), (fs.all fun f => f.name != "_" && eqOk P d f.type) = true → fldsOf P fs = some l → eqFs (eqP tys d) xs ys l = some r →
   (Op.eqFields (N + d) vs.toArray us.toArray fs).run P w = .ok r w
 | [], l, r, _, hl, h => by
  cases hl
  cases h
  simp [Op.eqFields]
 | f :: fs, l, r, hok, hl, h => by
  obtain ⟨⟨o, s, ag, ft⟩, l', h1, h2, rfl⟩ := fldsOf_cons hl
  simp only [List.all_cons, Bool.and_eq_true, bne_iff_ne] at hok
  obtain ⟨⟨hn, hoke⟩, hokr⟩ := hok
  unfold fldOf at h1
  split at h1
  ·rename_i s' d' hs hd
   cases h1
   unfold eqFs at h
   split at h
   ·rename_i a b ha hb
    split at h
    ·rename_i p q hp hq
     cases h
     obtain ⟨va, ra, da⟩ := run_part (P := P) xs vs (Nat.le_of_eq hx) hxd hd hs ha
     obtain ⟨vb, rb, db⟩ := run_part (P := P) ys us (Nat.le_of_eq hy) hyd hd hs hb
     have he := hr _ _ _ _ _ _ hoke hp da db
     have hrest := eqFs_sound hx hy hxd hyd hr fs l' q hokr h2 hq
     simp only [Op.eqFields, hn, ne_eq, not_false_eq_true, if_true, Sem.run_bind, ra, rb, he, Result.andThen_ok]
     cases p
     ·simp
     ·simpa using hrest
    ·cases h
   ·cases h
  ·cases h1
theorem eqP_sound (hT : Tys P tys) : ∀ (d : Nat) (N : Nat) (t : TypeId) (x y : PV) (r : Bool) (vx vy : Value), eqOk P d t = true → eqP tys d t x y = some r → Den A w β x vx → Den A w β y vy → (Op.equalIn (N + d) t vx vy).run P w = .ok r w
 | 0, N, t, x, y, r, vx, vy, hok, _, _, _ => by cases hok
 | d + 1, N, t, x, y, r, vx, vy, hok, h, hx, hy => by
  unfold eqP at h
  split at h
  ·rename_i z1 z2 z3 ht
   obtain ⟨i, td, hi1, hu, htk, _⟩ := tyOf_spec (hT _ _ ht)
   obtain rfl := tkOf_bool htk
   split at h
   ·cases h
    rw [hx.bool_inv, hy.bool_inv]
    exact run_equalIn_bool' w (N + d) t _ _ hu
   ·cases h
  ·rename_i k z1 z2 z3 ht
   obtain ⟨i, td, hi1, hu, htk, _⟩ := tyOf_spec (hT _ _ ht)
   obtain rfl := tkOf_int htk
   split at h
   ·split at h
    ·rename_i hk; subst hk; cases h
     rw [hx.int_inv, hy.int_inv]
     exact run_equalIn_int w (N + d) t _ _ _ _ hu
    ·cases h
   ·cases h
  ·rename_i z1 z2 z3 ht
   obtain ⟨i, td, hi1, hu, htk, _⟩ := tyOf_spec (hT _ _ ht)
   obtain rfl := tkOf_str htk
   split at h
   ·rename_i a b
    cases h
    rw [hx.str_inv, hy.str_inv]
    have := run_equalIn_string w (N + d) t (⟨a.toArray⟩ : ByteArray) (⟨b.toArray⟩ : ByteArray) hu
    rw [ByteArray.toList_eq, ByteArray.toList_eq] at this
    exact this
   ·cases h
  ·rename_i l z1 z2 z3 ht
   obtain ⟨i, td, hi1, hu, htk, _⟩ := tyOf_spec (hT _ _ ht)
   obtain ⟨fs, rfl, hfs⟩ := tkOf_strct htk
   unfold eqOk at hok
   rw [hu] at hok
   simp only [Bool.and_eq_true, Bool.not_eq_true'] at hok
   split at h
   ·obtain ⟨vs, rfl, hl1, hd1⟩ := hx.agg_inv
    obtain ⟨us, rfl, hl2, hd2⟩ := hy.agg_inv
    have hf : P.fieldsOf t = fs := by simp [Program.fieldsOf, hu]
    rw [show N + (d + 1) = (N + d) + 1 from rfl, run_equalIn_agg w (N + d) t _ _ (by rw [hf]; exact hu) hok.1, hf]
    exact eqFs_sound hl1 hl2 hd1 hd2 (fun t x y r vx vy h1 h2 h3 h4 => eqP_sound hT d N t x y r vx vy h1 h2 h3 h4) fs.toList l r hok.2 hfs h
   ·cases h
  ·cases h
theorem v_eqS (hT : Tys P tys) {t t' : TypeId} {x y : Operand} {xs ys : List PV} {r : Bool} (ho : o.op = .binOp .eql t x y t') (hx : pe env x = .agg xs) (hy : pe env y = .agg ys) (hok : (eqOk P 10 t && !P.eqGuardType P.depth t) = true) (h : eqP tys 10 t (.agg xs) (.agg ys) = some r) : OpV P Gl B o env (.bool r) := by
 intro st A w β tmps hi he
 simp only [Bool.and_eq_true, Bool.not_eq_true'] at hok
 have hdx := he.eval [] x
 have hdy := he.eval [] y
 rw [hx] at hdx
 rw [hy] at hdy
 have hs := eqP_sound (P := P) hT 10 9990 t _ _ r _ _ hok.1 h hdx hdy
 obtain ⟨vs, hv1, _⟩ := hdx.agg_inv
 obtain ⟨us, hv2, _⟩ := hdy.agg_inv
 rw [hv1, hv2] at hs
 refine ⟨.bool r, ?_, .bool ..⟩
 simp only [execOp, ho, Sem.run_bind, hv1, hv2, run_eqGuard_agg w .eql t x y vs.toArray us.toArray hok.2, Result.andThen_ok, run_eql_struct]
 rw [show (10000 : Nat) = 9990 + 10 from rfl, hs]
 rfl
theorem v_neS (hT : Tys P tys) {t t' : TypeId} {x y : Operand} {xs ys : List PV} {r : Bool} (ho : o.op = .binOp .neq t x y t') (hx : pe env x = .agg xs) (hy : pe env y = .agg ys) (hok : (eqOk P 10 t && !P.eqGuardType P.depth t) = true) (h : eqP tys 10 t (.agg xs) (.agg ys) = some r) : OpV P Gl B o env (.bool !r) := by
 intro st A w β tmps hi he
 simp only [Bool.and_eq_true, Bool.not_eq_true'] at hok
 have hdx := he.eval [] x
 have hdy := he.eval [] y
 rw [hx] at hdx
 rw [hy] at hdy
 have hs := eqP_sound (P := P) hT 10 9990 t _ _ r _ _ hok.1 h hdx hdy
 obtain ⟨vs, hv1, _⟩ := hdx.agg_inv
 obtain ⟨us, hv2, _⟩ := hdy.agg_inv
 rw [hv1, hv2] at hs
 refine ⟨.bool !r, ?_, .bool ..⟩
 simp only [execOp, ho, Sem.run_bind, hv1, hv2, run_eqGuard_agg w .neq t x y vs.toArray us.toArray hok.2, Result.andThen_ok, run_neq_struct]
 rw [show (10000 : Nat) = 9990 + 10 from rfl, hs]
 rfl
end
end Go.Pw
namespace Go.Pw
open Go
section
variable {P : Program} {Gl : Glob} {B : Base} {tys : List TI} {env : List PV} {st : List PObj} {ops : Array Oper} {rest : List Oper} {o : Oper} {Q : Post}
theorem arr_room {A : Nat → Prop} {w : World} {β : List Nat} (hi : Inv Gl B A w β st) {i k cap : Nat} {xs : List PV} (hst : st[i]? = some (.arr k xs cap)) : xs.length ≤ cap := by
 have hil : i < β.length := by rw [hi.len]; exact (List.getElem?_eq_some_iff.1 hst).1
 exact (hi.obj i _ _ (List.getElem?_eq_getElem hil) hst).1
theorem pw_room (i : Nat) {k cap : Nat} {xs : List PV} {c : Code} (hst : st[i]? = some (.arr k xs cap)) (h : xs.length ≤ cap → PW P Gl B c env st Q) : PW P Gl B c env st Q :=
 fun A w β tmps hi he => h (arr_room hi hst) A w β tmps hi he
theorem pl_room (i : Nat) {k cap : Nat} {xs : List PV} (hst : st[i]? = some (.arr k xs cap)) (h : xs.length ≤ cap → PWL P Gl B ops rest env st Q) : PWL P Gl B ops rest env st Q :=
 fun A w β tmps hi he => h (arr_room hi hst) A w β tmps hi he
theorem op_storeE' {K : PV → List PObj → Prop} {t : TypeId} {a y : Operand} {k i e off cap : Nat} {xs xs' : List PV} {x0 x1 p : PV} {ti : TI} (hT : Tys P tys) (ho : o.op = .store t a y) (ht : tys[t]? = some ti)
  (ha : pe env a = .eptr k i e off) (hp : pe env y = p) (hs : st[i]? = some (.arr k xs cap)) (hcap : cap ≠ 0) (hx : xs[e]? = some x0) (hk : p.okPart = true) (h1 : p.cells.all PV.one = true) (hr : p.cells.all (PV.refs (fun _ => false) 5) = true) (hsz : p.cells.length = ti.size) (hle : off + ti.size ≤ x0.cells.length)
  (hx1 : x1.cells = splice x0.cells off p.cells) (hset : xs.set e x1 = xs') (hK : K .any (st.set i (.arr k xs' cap))) : OpP P Gl B o env st K :=
 op_storeE hT ho ht ha hp hs hcap hx hk h1 hr hsz hle hx1 (by rw [hset]; exact hK)
theorem po_loadE {E : List PV → List PObj → List (Nat × Nat) → Prop} {rest : List (Nat × Bool)} {n : Nat} {L : List (Nat × Nat)} {oi : Oper} {t : TypeId} {a : Operand} {k i e off cap : Nat} {xs : List PV} {x0 x : PV} {ti : TI} (ho : ops[n]? = some oi) (hg : oi.guard = none) (hT : Tys P tys) (hop : oi.op = .load t a) (ht : tys[t]? = some ti) (hkn : ti.tk.known = true)
  (ha : pe (maskE (oi.looksAt ops) 0 env) a = .eptr k i e off) (hs : st[i]? = some (.arr k xs cap)) (hcap : cap ≠ 0) (hx : xs[e]? = some x0) (hp : part? ti.tk.agg x0.cells off ti.size = some x) (hr : PWO P Gl B ops E rest (putE env oi.dst x) st ((n, i) :: L)) :
  PWO P Gl B ops E ((n, true) :: rest) env st L := by
 unfold PWO
 refine ⟨oi, x, some i, ho, ?_, hr⟩
 unfold Free
 rw [hg]
 intro _ st' hpos
 exact op_loadE hT hop ht hkn ha ((hpos i rfl).trans hs) hcap hx hp ⟨rfl, rfl⟩
end
end Go.Pw
namespace Go.Pw
open Go
section
variable {P : Program} {Gl : Glob} {B : Base} {env : List PV} {st : List PObj} {ops : Array Oper} {rest : List Oper} {Q : Post}
theorem FLe.wipeF (F : Nat → Bool) (st : List PObj) : ∀ (l : List PV), LeBy (FLe F st 3) l (l.map (Pw.wipe fun i => !(F i)))
 | [] => trivial
 | x :: l => by
  refine ⟨?_, FLe.wipeF F st l⟩
  unfold Pw.wipe
  split
  ·exact .inr (.inl rfl)
  ·exact .inl rfl
end
end Go.Pw
