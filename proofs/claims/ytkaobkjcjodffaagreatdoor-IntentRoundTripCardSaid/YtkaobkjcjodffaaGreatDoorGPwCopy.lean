/-
 Rows copied into arrays of the function's own.
 '==' of structs whose fields are plain.
 Arrays of one's own: their room, elements written, parts given up as rows.
-/
import Derived.Test.YtkaobkjcjodffaaGreatDoorGPwMap
import Derived.Test.YtkaobkjcjodffaaGreatDoorGPwCall
namespace Go.Pw
open Go
section
variable {P : Program} {Gl : Glob} {B : Base} {tys : List TI} {env : List PV} {st : List PObj} {ops : Array Oper} {rest : List Oper} {o : Oper} {Q : Post}
def PObj.noMap : PObj → Bool
 | .map _ => false
 | _ => true
theorem Le.wipe (d : Nat → Bool) : ∀ (l : List PV), Le l (l.map (Pw.wipe d))
 | [] => trivial
 | x :: l => by
  refine ⟨?_, Le.wipe d l⟩
  unfold Pw.wipe
  split
  ·exact .inr (.inl rfl)
  ·exact .inl rfl
theorem StLe.wipe (d : Nat → Bool) : ∀ (l : List PObj), l.all PObj.noMap = true → StLe l (l.map (PObj.wipe d))
 | [], _ => trivial
 | x :: l, h => by
  simp only [List.all_cons, Bool.and_eq_true] at h
  refine ⟨?_, StLe.wipe d l h.2⟩
  cases x with
  | dead => exact .inl rfl
  | box cs => exact .inr (.inr ⟨_, _, rfl, rfl, Le.wipe d cs⟩)
  | arr k xs cap => exact .inl rfl
  | map es => cases h.1
theorem op_append0 {K : PV → List PObj → Prop} {T T2 s b i : Nat} {x y : Operand} (hT : Tys P tys) (ho : o.op = .call ⟨.builtin .append, #[x, y], #[T, T2]⟩) (hk : appOk tys T T2 s b = true) (hx : pe env x = .msl s i 0 0 0) (hy : pe env y = .sl [])
  (hK : K (.msl s i 0 0 0) st) : OpP P Gl B o env st K := by
 refine op_val (fun A w β tmps hi he => ?_) hK
 obtain ⟨e, tie, zv, ⟨hu, ⟨e2, hu2⟩, hie, hse, hbe, hzv, hzs⟩, hb0⟩ := appOk_spec hT hk
 have hdx := he.eval [] x
 have hdy := he.eval [] y
 rw [hx] at hdx
 rw [hy] at hdy
 obtain ⟨a, hvx⟩ := hdx.msl_any
 obtain ⟨a2, cap2, cs, hv, hf, hrow⟩ := run_first (P := P) hdy (k := s) (by simp)
 have hcs : cs = [] := List.eq_nil_of_length_eq_zero (by rw [hrow.1]; simp)
 subst hcs
 have hlenv : (Builtin.lenOf ((⟨tmps.toArray, []⟩ : Act).eval y)).run P w = .ok 0 w := by rw [hv]; rfl
 have hrun : (Builtin.append_ #[T, T2] o.type #[.slice a 0 0, (⟨tmps.toArray, []⟩ : Act).eval y]).run P w = .ok (.slice a 0 0) w := by
  cases a with
  | some a => exact run_fit hu hu2 (by simp [szOf, hie, hse]) (new := []) hlenv (hf w rfl) (Nat.le_refl _) o.type (by simp [storeCells])
  | none =>
   simp only [Builtin.append_, List.getElem?_toArray, List.getElem?_cons_zero, List.getElem?_cons_succ, Sem.run_bind, run_underlying hu, run_underlying hu2, Result.andThen_ok, run_size (show szOf P e = some s by simp [szOf, hie, hse]), Sem.run_pure, Bool.false_eq_true, if_false, hlenv]
   rw [if_pos (by omega)]
   have hf0 := hf w rfl
   simp only [List.length_nil] at hf0
   simp only [Sem.run_bind, hf0, Result.andThen_ok, Bool.not_false, if_true, Sem.run_pure]
 refine ⟨.slice a 0 0, ?_, .mslnil _ _ _ _ _⟩
 rw [run_callb (o := o) ho rfl, hvx, hrun]
 rfl
theorem pl_appendN {T T2 s b i : Nat} {x y : Operand} {ys : List PV} {st0 : List PObj} (hT : Tys P tys) (hD : ∀ j, B.D j = dOf st0 j) (hg : o.guard = none) (ho : o.op = .call ⟨.builtin .append, #[x, y], #[T, T2]⟩) (hk : appOk tys T T2 s b = true) (hx : pe env x = .msl s i 0 0 0) (hst : st[i]? = some (.arr s [] 0)) (hy : pe env y = .sl ys)
  (hd0 : dOk st0 i st.length = true) (hm : st.all PObj.noMap = true) (hs : ys.all (fun y => y.cells.length == s) = true) (hon : ys.all (fun y => y.cells.all PV.one) = true) (hbd : ys.length * b ≤ 140737488355328)
  (hr : ∀ cap', ys.length ≤ cap' → PWL P Gl B ops rest (putE (env.map (wipe fun j => decide (j < st.length) && j != i)) o.dst (.msl s i 0 ys.length cap')) ((st.map (PObj.wipe fun j => decide (j < st.length) && j != i)).set i (.arr s ys cap')) Q) :
  PWL P Gl B ops (o :: rest) env st Q := by
 by_cases h0 : ys = []
 ·subst h0
  refine pl_op hg (op_append0 hT ho hk hx hy ?_)
  refine pl_weaken ?_ ?_ (hr 0 (Nat.le_refl _))
  ·unfold putE
   cases o.dst with
   | none => exact Le.wipe _ env
   | some d =>
    show Le (env.set d _) ((env.map _).set d _)
    have : ∀ (l m : List PV) (d : Nat) (x : PV), Le l m → Le (l.set d x) (m.set d x) := by
     intro l
     induction l with
     | nil => intro m d x h; cases m with | nil => trivial | cons _ _ => cases h
     | cons a l ih =>
      intro m d x h
      cases m with
      | nil => cases h
      | cons c m =>
       cases d with
       | zero => exact ⟨.inr (.inl rfl), h.2⟩
       | succ d => exact ⟨h.1, ih m d x h.2⟩
    exact this _ _ d _ (Le.wipe _ env)
  ·have h2 : (st.map (PObj.wipe fun j => decide (j < st.length) && j != i)).set i (.arr s [] 0) = st.map (PObj.wipe fun j => decide (j < st.length) && j != i) := by
    apply List.ext_getElem?
    intro j
    rw [List.getElem?_set]
    by_cases hij : i = j
    ·subst hij
     rw [if_pos rfl, List.getElem?_map, hst]
     have := (List.getElem?_eq_some_iff.1 hst).1
     simp [this, PObj.wipe]
    ·rw [if_neg hij]
   rw [h2]
   exact StLe.wipe _ st hm
 ·have hpos : 0 < ys.length := List.length_pos_iff.2 h0
  refine pl_append hT hD hg ho hk hx hst rfl hy hd0 (.inl hpos) hs hon (by simpa using hbd) fun cap' h1 _ => ?_
  have := hr cap' (by simpa using h1)
  simpa using this
end
end Go.Pw
namespace Go.Pw
open Go
section
variable {P : Program} {Gl : Glob} {B : Base} {tys : List TI} {env : List PV} {st : List PObj} {Q : Post}
theorem pw_joinX {α : Type} {st0 : List PObj} (hD : ∀ j, B.D j = dOf st0 j) {c y : Code} (φ : α → Prop) (V : α → List (Nat × PV)) (S : α → List PObj) (n : Nat) {ds : List Nat} {E : α → List PV} (_hds : (forceN (dstsOf c) fun l => (l, ())) = (ds, ())) (_hM : ∀ a, (headK ds (V a) 0 env fun e => (e, ())) = (E a, ()))
  (hn : ∀ a, (Nat.ble st0.length n && Nat.beq (S a).length n) = true) (hr : ∀ a, ((E a).all (PV.refs (fun i => Nat.blt i n) 5) && (S a).all (PObj.refs (fun i => Nat.blt i n) 5)) = true)
  (h : PW P Gl B c env st (andThen (fun env' st' => ∃ a, φ a ∧ Le env' (E a) ∧ StLe (st'.take (S a).length) (S a)) Q)) (hK : ∀ a, φ a → PW P Gl B y (E a) (S a) Q) : PW P Gl B c env st (andThen (fun env st => PW P Gl B y env st Q) Q) :=
 h.mono fun e env' st' hh => by
  cases e with
  | normal => obtain ⟨a, h1, h2, h3⟩ := hh; exact pw_cut hD (hn a) (hr a) h2 h3 (hK a h1)
  | _ => exact hh
end
end Go.Pw
namespace Go.Pw
open Go
def eqFs (r : TypeId → PV → PV → Option Bool) (xs ys : List PV) : List (Nat × Nat × Bool × TypeId) → Option Bool
 | [] => some true
 | (o, s, ag, ft) :: l => match part? ag xs o s, part? ag ys o s with
  | some a, some b => match r ft a b, eqFs r xs ys l with
   | some p, some q => some (p && q)
   | _, _ => none
  | _, _ => none
def eqP (tys : List TI) : Nat → TypeId → PV → PV → Option Bool
 | 0, _, _, _ => none
 | d + 1, t, x, y => match tys[t]? with
  | some ⟨.bool, _, _, _⟩ => match x, y with
   | .bool a, .bool b => some (a == b)
   | _, _ => none
  | some ⟨.int _, _, _, _⟩ => match x, y with
   | .int k a, .int k' b => if k = k' then some (a == b) else none
   | _, _ => none
  | some ⟨.str, _, _, _⟩ => match x, y with
   | .str a, .str b => some (a == b)
   | _, _ => none
  | some ⟨.strct l, _, _, _⟩ => match x, y with
   | .agg xs, .agg ys => eqFs (eqP tys d) xs ys l
   | _, _ => none
  | _ => none
def eqOk (P : Program) : Nat → TypeId → Bool
 | 0, _ => false
 | d + 1, t => match P.underlying t with
  | some (.struct fs) => !P.stoodInHeld t && fs.toList.all fun f => f.name != "_" && eqOk P d f.type
  | _ => true
section
variable {P : Program} {Gl : Glob} {B : Base} {tys : List TI} {env : List PV} {o : Oper} {A : Nat → Prop} {w : World} {β : List Nat}
theorem fldsOf_cons {f : Field} {fs : List Field} {l : List (Nat × Nat × Bool × TypeId)} (h : fldsOf P (f :: fs) = some l) : ∃ x l', fldOf P f = some x ∧ fldsOf P fs = some l' ∧ l = x :: l' := by
 unfold fldsOf at h
 split at h
 ·rename_i x xs h1 h2; cases h; exact ⟨x, xs, h1, h2, rfl⟩
 ·cases h
theorem tkOf_bool {d : TypeDesc} (h : TK.bool = tkOf P d) : d = .bool := by
 unfold tkOf at h
 split at h <;> first | rfl | (cases h; done) | (split at h <;> cases h)
theorem eqFs_sound {d N : Nat} {xs ys : List PV} {vs us : List Value} (hx : xs.length = vs.length) (hy : ys.length = us.length) (hxd : ∀ (j : Nat) c v, xs[j]? = some c → vs[j]? = some v → Den A w β c v) (hyd : ∀ (j : Nat) c v, ys[j]? = some c → us[j]? = some v → Den A w β c v)
  (hr : ∀ t x y r vx vy, eqOk P d t = true → eqP tys d t x y = some r → Den A w β x vx → Den A w β y vy → (Op.equalIn (N + d) t vx vy).run P w = .ok r w) :
  ∀ (fs : List Field) (l : List (Nat × Nat × Bool × TypeId)) (r : Bool), (fs.all fun f => f.name != "_" && eqOk P d f.type) = true → fldsOf P fs = some l → eqFs (eqP tys d) xs ys l = some r →
   (Op.eqFields (N + d) vs.toArray us.toArray fs).run P w = .ok r w
 | [], l, r, _, hl, h => by
  cases hl
  cases h
  simp [Op.eqFields]
 | f :: fs, l, r, hok, hl, h => by
  obtain ⟨⟨o, s, ag, ft⟩, l', h1, h2, rfl⟩ := fldsOf_cons hl
  simp only [List.all_cons, Bool.and_eq_true, bne_iff_ne] at hok
  obtain ⟨⟨hn, hoke⟩, hokr⟩ := hok
  unfold fldOf at h1
  split at h1
  ·rename_i s' d' hs hd
   cases h1
   unfold eqFs at h
   split at h
   ·rename_i a b ha hb
    split at h
    ·rename_i p q hp hq
     cases h
     obtain ⟨va, ra, da⟩ := run_part (P := P) xs vs (Nat.le_of_eq hx) hxd hd hs ha
     obtain ⟨vb, rb, db⟩ := run_part (P := P) ys us (Nat.le_of_eq hy) hyd hd hs hb
     have he := hr _ _ _ _ _ _ hoke hp da db
     have hrest := eqFs_sound hx hy hxd hyd hr fs l' q hokr h2 hq
     simp only [Op.eqFields, hn, ne_eq, not_false_eq_true, if_true, Sem.run_bind, ra, rb, he, Result.andThen_ok]
     cases p
     ·simp
     ·simpa using hrest
    ·cases h
   ·cases h
  ·cases h1
theorem eqP_sound (hT : Tys P tys) : ∀ (d : Nat) (N : Nat) (t : TypeId) (x y : PV) (r : Bool) (vx vy : Value), eqOk P d t = true → eqP tys d t x y = some r → Den A w β x vx → Den A w β y vy → (Op.equalIn (N + d) t vx vy).run P w = .ok r w
 | 0, N, t, x, y, r, vx, vy, hok, _, _, _ => by cases hok
 | d + 1, N, t, x, y, r, vx, vy, hok, h, hx, hy => by
  unfold eqP at h
  split at h
  ·rename_i z1 z2 z3 ht
   obtain ⟨i, td, hi1, hu, htk, _⟩ := tyOf_spec (hT _ _ ht)
   obtain rfl := tkOf_bool htk
   split at h
   ·cases h
    rw [hx.bool_inv, hy.bool_inv]
    exact run_equalIn_bool' w (N + d) t _ _ hu
   ·cases h
  ·rename_i k z1 z2 z3 ht
   obtain ⟨i, td, hi1, hu, htk, _⟩ := tyOf_spec (hT _ _ ht)
   obtain rfl := tkOf_int htk
   split at h
   ·split at h
    ·rename_i hk; subst hk; cases h
     rw [hx.int_inv, hy.int_inv]
     exact run_equalIn_int w (N + d) t _ _ _ _ hu
    ·cases h
   ·cases h
  ·rename_i z1 z2 z3 ht
   obtain ⟨i, td, hi1, hu, htk, _⟩ := tyOf_spec (hT _ _ ht)
   obtain rfl := tkOf_str htk
   split at h
   ·rename_i a b
    cases h
    rw [hx.str_inv, hy.str_inv]
    have := run_equalIn_string w (N + d) t (⟨a.toArray⟩ : ByteArray) (⟨b.toArray⟩ : ByteArray) hu
    rw [ByteArray.toList_eq, ByteArray.toList_eq] at this
    exact this
   ·cases h
  ·rename_i l z1 z2 z3 ht
   obtain ⟨i, td, hi1, hu, htk, _⟩ := tyOf_spec (hT _ _ ht)
   obtain ⟨fs, rfl, hfs⟩ := tkOf_strct htk
   unfold eqOk at hok
   rw [hu] at hok
   simp only [Bool.and_eq_true, Bool.not_eq_true'] at hok
   split at h
   ·obtain ⟨vs, rfl, hl1, hd1⟩ := hx.agg_inv
    obtain ⟨us, rfl, hl2, hd2⟩ := hy.agg_inv
    have hf : P.fieldsOf t = fs := by simp [Program.fieldsOf, hu]
    rw [show N + (d + 1) = (N + d) + 1 from rfl, run_equalIn_agg w (N + d) t _ _ (by rw [hf]; exact hu) hok.1, hf]
    exact eqFs_sound hl1 hl2 hd1 hd2 (fun t x y r vx vy h1 h2 h3 h4 => eqP_sound hT d N t x y r vx vy h1 h2 h3 h4) fs.toList l r hok.2 hfs h
   ·cases h
  ·cases h
theorem v_eqS (hT : Tys P tys) {t t' : TypeId} {x y : Operand} {xs ys : List PV} {r : Bool} (ho : o.op = .binOp .eql t x y t') (hx : pe env x = .agg xs) (hy : pe env y = .agg ys) (hok : (eqOk P 10 t && !P.eqGuardType P.depth t) = true) (h : eqP tys 10 t (.agg xs) (.agg ys) = some r) : OpV P Gl B o env (.bool r) := by
 intro st A w β tmps hi he
 simp only [Bool.and_eq_true, Bool.not_eq_true'] at hok
 have hdx := he.eval [] x
 have hdy := he.eval [] y
 rw [hx] at hdx
 rw [hy] at hdy
 have hs := eqP_sound (P := P) hT 10 9990 t _ _ r _ _ hok.1 h hdx hdy
 obtain ⟨vs, hv1, _⟩ := hdx.agg_inv
 obtain ⟨us, hv2, _⟩ := hdy.agg_inv
 rw [hv1, hv2] at hs
 refine ⟨.bool r, ?_, .bool ..⟩
 simp only [execOp, ho, Sem.run_bind, hv1, hv2, run_eqGuard_agg w .eql t x y vs.toArray us.toArray hok.2, Result.andThen_ok, run_eql_struct]
 rw [show (10000 : Nat) = 9990 + 10 from rfl, hs]
 rfl
theorem v_neS (hT : Tys P tys) {t t' : TypeId} {x y : Operand} {xs ys : List PV} {r : Bool} (ho : o.op = .binOp .neq t x y t') (hx : pe env x = .agg xs) (hy : pe env y = .agg ys) (hok : (eqOk P 10 t && !P.eqGuardType P.depth t) = true) (h : eqP tys 10 t (.agg xs) (.agg ys) = some r) : OpV P Gl B o env (.bool !r) := by
 intro st A w β tmps hi he
 simp only [Bool.and_eq_true, Bool.not_eq_true'] at hok
 have hdx := he.eval [] x
 have hdy := he.eval [] y
 rw [hx] at hdx
 rw [hy] at hdy
 have hs := eqP_sound (P := P) hT 10 9990 t _ _ r _ _ hok.1 h hdx hdy
 obtain ⟨vs, hv1, _⟩ := hdx.agg_inv
 obtain ⟨us, hv2, _⟩ := hdy.agg_inv
 rw [hv1, hv2] at hs
 refine ⟨.bool !r, ?_, .bool ..⟩
 simp only [execOp, ho, Sem.run_bind, hv1, hv2, run_eqGuard_agg w .neq t x y vs.toArray us.toArray hok.2, Result.andThen_ok, run_neq_struct]
 rw [show (10000 : Nat) = 9990 + 10 from rfl, hs]
 rfl
end
end Go.Pw
namespace Go.Pw
open Go
section
variable {P : Program} {Gl : Glob} {B : Base} {tys : List TI} {env : List PV} {st : List PObj} {ops : Array Oper} {rest : List Oper} {o : Oper} {Q : Post}
theorem arr_room {A : Nat → Prop} {w : World} {β : List Nat} (hi : Inv Gl B A w β st) {i k cap : Nat} {xs : List PV} (hst : st[i]? = some (.arr k xs cap)) : xs.length ≤ cap := by
 have hil : i < β.length := by rw [hi.len]; exact (List.getElem?_eq_some_iff.1 hst).1
 exact (hi.obj i _ _ (List.getElem?_eq_getElem hil) hst).1
theorem pw_room (i : Nat) {k cap : Nat} {xs : List PV} {c : Code} (hst : st[i]? = some (.arr k xs cap)) (h : xs.length ≤ cap → PW P Gl B c env st Q) : PW P Gl B c env st Q :=
 fun A w β tmps hi he => h (arr_room hi hst) A w β tmps hi he
theorem pl_room (i : Nat) {k cap : Nat} {xs : List PV} (hst : st[i]? = some (.arr k xs cap)) (h : xs.length ≤ cap → PWL P Gl B ops rest env st Q) : PWL P Gl B ops rest env st Q :=
 fun A w β tmps hi he => h (arr_room hi hst) A w β tmps hi he
theorem op_storeE' {K : PV → List PObj → Prop} {t : TypeId} {a y : Operand} {k i e off cap : Nat} {xs xs' : List PV} {x0 x1 p : PV} {ti : TI} (hT : Tys P tys) (ho : o.op = .store t a y) (ht : tys[t]? = some ti)
  (ha : pe env a = .eptr k i e off) (hp : pe env y = p) (hs : st[i]? = some (.arr k xs cap)) (hcap : cap ≠ 0) (hx : xs[e]? = some x0) (hk : p.okPart = true) (h1 : p.cells.all PV.one = true) (hr : p.cells.all (PV.refs (fun _ => false) 5) = true) (hsz : p.cells.length = ti.size) (hle : off + ti.size ≤ x0.cells.length)
  (hx1 : x1.cells = splice x0.cells off p.cells) (hset : xs.set e x1 = xs') (hK : K .any (st.set i (.arr k xs' cap))) : OpP P Gl B o env st K :=
 op_storeE hT ho ht ha hp hs hcap hx hk h1 hr hsz hle hx1 (by rw [hset]; exact hK)
theorem op_sliceF {K : PV → List PObj → Prop} {t : TypeId} {tx : Tmp} {lo : Option Operand} {s i n cap m : Nat} {xs : List PV} (hT : Tys P tys) (ho : o.op = .slice t (.tmp tx) lo none none) {el b z1 z2 : Nat} {z3 : Option (List PV)} (ht : tys[t]? = some ⟨.sl el s b, z1, z2, z3⟩)
  (hx : pe env (.tmp tx) = .msl s i 0 n cap) (hst : st[i]? = some (.arr s xs cap)) (hn : n = xs.length) (hl : bnd env 0 lo = some (m : Int)) (hm : m ≤ xs.length) (hs : xs.all (fun y => y.cells.length == s) = true) (hK : K (.sl (xs.drop m)) (st.set i .dead)) : OpP P Gl B o env st K := fun A w β tmps Q' hi he => by
 obtain ⟨A', hE, hden, hinv⟩ := hi.freeze (fun j => j == i)
 have hfs : ∀ (l : List PObj) (k : Nat), FSt (fun j => j == i) st k l (killF (fun j => j == i) k l) := fun l k => killF_spec _ st l k
 have hkill : ∀ (l : List PObj) (k : Nat), k ≤ i → killF (fun j => j == i) k l = l.set (i - k) .dead := by
  intro l
  induction l with
  | nil => intro k _; rfl
  | cons x l ih =>
   intro k hk
   by_cases hki : k = i
   ·subst hki
    have : ∀ (l : List PObj) (n : Nat), k < n → killF (fun j => j == k) n l = l := by
     intro l
     induction l with
     | nil => intro n _; rfl
     | cons y l ih2 =>
      intro n hn
      rw [killF, ih2 (n + 1) (by omega)]
      have : (n == k) = false := by rw [beq_eq_false_iff_ne]; omega
      simp [this]
    rw [killF, this l (k + 1) (by omega)]
    simp
   ·rw [killF, ih (k + 1) (by omega)]
    have h1 : (k == i) = false := by rw [beq_eq_false_iff_ne]; exact hki
    have h2 : i - k = (i - (k + 1)) + 1 := by omega
    simp only [h1, h2, List.set_cons_succ]
 have hi' := hinv _ (hfs st 0)
 rw [hkill st 0 (Nat.zero_le _), Nat.sub_zero] at hi'
 -- the frame in which the slice is a row
 have hrow : Den A' w β (.sl xs) ((⟨tmps.toArray, []⟩ : Act).eval (.tmp tx)) := by
  have hd := he.eval [] (.tmp tx)
  rw [hx] at hd
  exact hden 1 _ _ _ (.inr (.inr (.inr (.inl ⟨s, i, n, cap, s, xs, rfl, by simp, hst, hn, rfl⟩)))) hd
 have htx : tx < env.length := by
  rcases Nat.lt_or_ge tx env.length with h | h
  ·exact h
  ·simp [pe, List.getElem?_eq_none h] at hx
 have he' : EnvRel A' w β (env.set tx (.sl xs)) tmps := by
  refine ⟨by simp [he.1], fun j p v hp hv => ?_⟩
  rw [List.getElem?_set] at hp
  by_cases hj : tx = j
  ·subst hj
   rw [if_pos rfl, if_pos htx] at hp
   cases hp
   simpa [Act.eval, hv] using hrow
  ·rw [if_neg hj] at hp
   exact (he.2 j p v hp hv).mono hE (Pre.refl _)
 have hbnd : bnd (env.set tx (.sl xs)) 0 lo = some (m : Int) := by
  cases lo with
  | none => exact hl
  | some lo =>
   cases lo with
   | tmp tl =>
    simp only [bnd, pe] at hl ⊢
    rw [List.getElem?_set]
    by_cases hj : tx = tl
    ·subst hj
     simp only [pe] at hx
     rw [hx] at hl
     cases hl
    ·rw [if_neg hj]; exact hl
   | _ => exact hl
 have hv := v_slice (P := P) (Gl := Gl) (B := B) (o := o) (env := env.set tx (.sl xs)) (xs := xs) (l := m) (h := (xs.length : Int)) hT ho ht (by simp [pe, htx]) hbnd rfl (by omega) (by omega) (by omega) (fun y hy => by simpa using List.all_eq_true.1 hs y hy)
 obtain ⟨v, hrun, hdv⟩ := hv _ A' w β tmps hi' he'
 unfold Oper.wp
 rw [hrun]
 rw [Int.toNat_natCast, Int.toNat_natCast, List.take_length] at hdv
 exact ⟨v, _, _, A', β, rfl, hK, hdv, hi', hE, Pre.refl _⟩
theorem po_loadE {E : List PV → List PObj → List (Nat × Nat) → Prop} {rest : List (Nat × Bool)} {n : Nat} {L : List (Nat × Nat)} {oi : Oper} {t : TypeId} {a : Operand} {k i e off cap : Nat} {xs : List PV} {x0 x : PV} {ti : TI} (ho : ops[n]? = some oi) (hg : oi.guard = none) (hT : Tys P tys) (hop : oi.op = .load t a) (ht : tys[t]? = some ti) (hkn : ti.tk.known = true)
  (ha : pe (maskE (oi.looksAt ops) 0 env) a = .eptr k i e off) (hs : st[i]? = some (.arr k xs cap)) (hcap : cap ≠ 0) (hx : xs[e]? = some x0) (hp : part? ti.tk.agg x0.cells off ti.size = some x) (hr : PWO P Gl B ops E rest (putE env oi.dst x) st ((n, i) :: L)) :
  PWO P Gl B ops E ((n, true) :: rest) env st L := by
 unfold PWO
 refine ⟨oi, x, some i, ho, ?_, hr⟩
 unfold Free
 rw [hg]
 intro _ st' hpos
 exact op_loadE hT hop ht hkn ha ((hpos i rfl).trans hs) hcap hx hp ⟨rfl, rfl⟩
end
end Go.Pw
namespace Go.Pw
open Go
section
variable {P : Program} {Gl : Glob} {B : Base} {env : List PV} {st : List PObj} {ops : Array Oper} {rest : List Oper} {Q : Post}
theorem FLe.wipeF (F : Nat → Bool) (st : List PObj) : ∀ (l : List PV), LeBy (FLe F st 3) l (l.map (Pw.wipe fun i => !(F i)))
 | [] => trivial
 | x :: l => by
  refine ⟨?_, FLe.wipeF F st l⟩
  unfold Pw.wipe
  split
  ·exact .inr (.inl rfl)
  ·exact .inl rfl
end
end Go.Pw
