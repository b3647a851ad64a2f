/-
 Arrays of the function's own become rows that never change; a function's contract.
 Calls that may be handed arrays of the caller's own: these stand behind the call at new numbers.
-/
import Derived.Test.YtokclomhkggikaaGreatDoorJPwArr
namespace Go.Pw
open Go
def FLe (F : Nat → Bool) (st : List PObj) : Nat → PV → PV → Prop
 | 0, x, y => x = y
 | n + 1, x, y => y = .any ∨ x = y ∨ (x = .nilsl ∧ y = .sl []) ∨ (∃ k i m cap k' xs, x = .msl k i 0 m cap ∧ F i = true ∧ st[i]? = some (.arr k' xs cap) ∧ m = xs.length ∧ y = .sl xs) ∨ (∃ cs ds, x = .agg cs ∧ y = .agg ds ∧ LeBy (FLe F st n) cs ds) ∨ (∃ cs ds, x = .tup cs ∧ y = .tup ds ∧ LeBy (FLe F st n) cs ds)
def FOb (F : Nat → Bool) (st : List PObj) (x y : PObj) : Prop := y = .dead ∨ x = y ∨ ∃ cs ds, x = .box cs ∧ y = .box ds ∧ LeBy (FLe F st 3) cs ds
def FSt (F : Nat → Bool) (st : List PObj) : Nat → List PObj → List PObj → Prop
 | _, [], [] => True
 | i, x :: xs, y :: ys => (match F i with | true => y = .dead | false => FOb F st x y) ∧ FSt F st (i + 1) xs ys
 | _, _, _ => False
theorem FSt.len {F : Nat → Bool} {st : List PObj} : ∀ {i : Nat} {xs ys : List PObj}, FSt F st i xs ys → xs.length = ys.length
 | _, [], [], _ => rfl
 | _, _ :: _, _ :: _, ⟨_, h⟩ => by simp [FSt.len h]
theorem FSt.get {F : Nat → Bool} {st : List PObj} : ∀ {i : Nat} {xs ys : List PObj}, FSt F st i xs ys → ∀ (j : Nat) (y : PObj), ys[j]? = some y → ∃ x, xs[j]? = some x ∧ (F (i + j) = true ∧ y = .dead ∨ F (i + j) = false ∧ FOb F st x y)
 | i, [], [], _, j, y, h => by simp at h
 | i, x :: xs, y :: ys, ⟨h1, h2⟩, 0, z, h => by
  simp at h; subst h
  refine ⟨x, rfl, ?_⟩
  rw [Nat.add_zero]
  cases hF : F i with
  | true => rw [hF] at h1; exact .inl ⟨rfl, h1⟩
  | false => rw [hF] at h1; exact .inr ⟨rfl, h1⟩
 | i, x :: xs, y :: ys, ⟨h1, h2⟩, j + 1, z, h => by
  have := FSt.get h2 j z (by simpa using h)
  rw [show i + 1 + j = i + (j + 1) by omega] at this
  simpa using this
theorem FSt.snoc_dead {F : Nat → Bool} {st : List PObj} : ∀ {i : Nat} {xs ys : List PObj} (zs : List PObj), FSt F st i xs ys → FSt F st i (xs ++ zs) (ys ++ zs.map fun _ => .dead)
 | i, [], [], zs, _ => by
  induction zs generalizing i with
  | nil => trivial
  | cons z zs ih =>
   refine ⟨?_, ih _ trivial⟩
   cases F i
   ·exact .inl rfl
   ·rfl
 | i, x :: xs, y :: ys, zs, ⟨h1, h2⟩ => ⟨h1, h2.snoc_dead zs⟩
section rules
variable {P : Program} {Gl : Glob} {B : Base} {tys : List TI} {env : List PV} {st : List PObj} {Q : Post} {A : Nat → Prop} {w : World} {β : List Nat} {tmps : List Value}
theorem Inv.freeze (hi : Inv Gl B A w β st) (F : Nat → Bool) : ∃ A', Ext A w A' w ∧ (∀ n p q v, FLe F st n p q → Den A w β p v → Den A' w β q v) ∧ ∀ st', FSt F st 0 st st' → Inv Gl B A' w β st' := by
 let A' : Nat → Prop := fun b => A b ∨ ∃ i, F i = true ∧ β[i]? = some b ∧ liveAt st i
 have hE : Ext A w A' w := ⟨fun _ h => .inl h, fun _ _ => rfl⟩
 have hden : ∀ n p q v, FLe F st n p q → Den A w β p v → Den A' w β q v := by
  intro n
  induction n with
  | zero => intro p q v h hd; simp only [FLe] at h; subst h; exact hd.mono hE (.refl _)
  | succ n ih =>
   intro p q v h hd
   simp only [FLe] at h
   rcases h with rfl | rfl | ⟨rfl, rfl⟩ | ⟨k, i, m, cap, k', xs, rfl, hF, hst, rfl, rfl⟩ | ⟨cs, ds, rfl, rfl, hl⟩ | ⟨cs, ds, rfl, rfl, hl⟩
   ·exact .any ..
   ·exact hd.mono hE (.refl _)
   ·cases hd; exact .slnil ..
   ·have hil : i < β.length := by rw [hi.len]; exact (List.getElem?_eq_some_iff.1 hst).1
    have hb : β[i]? = some β[i] := List.getElem?_eq_getElem hil
    obtain ⟨h1, h2, h3, h0⟩ := hi.obj i _ _ hb hst
    by_cases hc : cap = 0
    ·subst hc
     have : xs = [] := List.eq_nil_of_length_eq_zero (by omega)
     subst this
     obtain ⟨a, rfl⟩ := hd.msl_any
     cases a with
     | none => exact .slnil ..
     | some a => exact .sl _ 0 [] a 0 (fun _ _ => undef) (fun h => (h rfl).elim) (Nat.le_refl _) (Nat.zero_le _) (by intro x hx; cases hx) (by intro i x j c hx; simp at hx) (by intro i x j c hx; simp at hx)
    ·obtain ⟨b, hb', rfl⟩ := hd.msl_inv hc
     rw [hb] at hb'
     cases hb'
     obtain ⟨vs, T, fr, g1, g2, g3, g4⟩ := h0 hc
     have hlive : liveAt st i := ⟨_, hst, by cases cap with | zero => exact (hc rfl).elim | succ c => rfl⟩
     refine .sl _ k' xs _ cap (fun i j => vs.getD (i * k' + j) undef) (fun _ => ⟨.inr ⟨i, hF, hb, hlive⟩, rfl⟩) h1 h2 h3 (fun e x j c hx hc => ?_) (fun e x j c hx hc => ?_)
     ·obtain ⟨u, hu, _⟩ := g4 e x j c hx hc
      rw [obj_cell g1, Nat.zero_mul, Nat.zero_add, hu]
      simp only [List.getD, hu, Option.getD_some]
     ·obtain ⟨u, hu, hd⟩ := g4 e x j c hx hc
      simp only [List.getD, hu, Option.getD_some]
      exact hd.mono hE (.refl _)
   ·cases hd with
    | agg _ _ vs h1 h2 =>
     refine .agg _ _ _ (hl.len ▸ h1) fun j c u hc hu => ?_
     obtain ⟨q, hq, hr⟩ := hl.get j c hc
     exact ih q c u hr (h2 j q u hq hu)
   ·cases hd with
    | tup _ _ vs h1 h2 =>
     refine .tup _ _ _ (hl.len ▸ h1) fun j c u hc hu => ?_
     obtain ⟨q, hq, hr⟩ := hl.get j c hc
     exact ih q c u hr (h2 j q u hq hu)
 refine ⟨A', hE, hden, fun st' hs => ?_⟩
 have lv : ∀ {i : Nat}, liveAt st' i → liveAt st i ∧ F i = false := fun {i} ⟨o, h1, h2⟩ => by
  obtain ⟨x, hx, hr⟩ := hs.get i o h1
  rw [Nat.zero_add] at hr
  rcases hr with ⟨_, rfl⟩ | ⟨hF, rfl | rfl | ⟨cs, ds, rfl, rfl, _⟩⟩
  ·cases h2
  ·cases h2
  ·exact ⟨⟨_, hx, h2⟩, hF⟩
  ·exact ⟨⟨_, hx, rfl⟩, hF⟩
 refine ⟨hi.len.trans hs.len, fun i j b h1 h2 l1 l2 => hi.inj i j b h1 h2 (lv l1).1 (lv l2).1, fun i b o h1 h2 => ?_, fun i b h1 l1 hA => ?_, fun i b h1 l1 => hi.own i b h1 (lv l1).1, fun b hb => ?_, fun b hb => ?_, fun b hb => .inl (hi.old b hb), hi.size, hi.os, hi.tape, hi.output, hi.keep, hi.glob, hi.pre, hi.apart⟩
 ·obtain ⟨x, hx, hr⟩ := hs.get i o h2
  have hob := hi.obj i b x h1 hx
  rcases hr with ⟨_, rfl⟩ | ⟨hF, rfl | rfl | ⟨cs, ds, rfl, rfl, hl⟩⟩
  ·trivial
  ·trivial
  ·exact hob.mono hE (.refl _) rfl
  ·obtain ⟨vs, T, fr, g1, g2, g3, g4⟩ := hob
   refine ⟨vs, T, fr, g1, g2.trans hl.len, hl.len ▸ g3, fun j c v hc hv => ?_⟩
   obtain ⟨q, hq, hr⟩ := hl.get j c hc
   exact hden 3 _ _ _ hr (g4 j q v hq hv)
 ·rcases hA with hA | ⟨j, hF, hb, hl⟩
  ·exact hi.notA i b h1 (lv l1).1 hA
  ·have := hi.inj i j b h1 hb (lv l1).1 hl
   subst this
   rw [(lv l1).2] at hF
   cases hF
 ·rcases hb with hb | ⟨j, hF, hb, o, ho, hl⟩
  ·exact hi.lt b hb
  ·exact (hi.obj j b o hb ho).lt hl
 ·rcases hb with hb | ⟨j, hF, hb, hl⟩
  ·exact hi.new b hb
  ·exact .inr (hi.own j b hb hl)
theorem pw_ghost (k : Nat) {c : Code} (h : PW P Gl B c env (st ++ [.arr k [] 0]) Q) : PW P Gl B c env st Q := fun A w β tmps hi he => by
 have hlen := hi.len
 have nl : ∀ {i : Nat}, liveAt (st ++ [.arr k [] 0]) i → liveAt st i := fun {i} ⟨o, h1, h2⟩ => by
  by_cases hl : i < st.length
  ·rw [List.getElem?_append_left hl] at h1; exact ⟨o, h1, h2⟩
  ·rw [List.getElem?_append_right (by omega)] at h1
   cases hk : i - st.length with
   | zero => rw [hk] at h1; simp at h1; subst h1; cases h2
   | succ n => rw [hk] at h1; simp at h1
 have gl : ∀ {i b : Nat}, (β ++ [0])[i]? = some b → liveAt (st ++ [.arr k [] 0]) i → β[i]? = some b := fun {i b} h1 l => by
  have hl : i < st.length := by obtain ⟨o, ho, _⟩ := nl l; exact (List.getElem?_eq_some_iff.1 ho).1
  rwa [List.getElem?_append_left (by omega)] at h1
 refine h A w (β ++ [0]) tmps ⟨by simp [hlen], fun i j b h1 h2 l1 l2 => hi.inj i j b (gl h1 l1) (gl h2 l2) (nl l1) (nl l2), fun i b o h1 h2 => ?_, fun i b h1 l1 => hi.notA i b (gl h1 l1) (nl l1), fun i b h1 l1 => hi.own i b (gl h1 l1) (nl l1), hi.lt, hi.new, hi.old, hi.size, hi.os, hi.tape, hi.output, hi.keep, hi.glob, fun i b h1 h2 => Pre.snoc _ _ _ _ (hi.pre i b h1 h2), hi.apart⟩ (he.mono (.refl _ _) (Pre.snoc _ _))
 by_cases hl : i < st.length
 ·rw [List.getElem?_append_left (by omega)] at h1 h2
  exact (hi.obj i b o h1 h2).mono (.refl _ _) (Pre.snoc _ _) rfl
 ·rw [List.getElem?_append_right (by omega)] at h2
  cases hk : i - st.length with
  | zero => rw [hk] at h2; simp at h2; subst h2; exact ⟨Nat.le_refl _, Nat.zero_le _, (by intro x hx; cases hx), fun h => (h rfl).elim⟩
  | succ n => rw [hk] at h2; simp at h2
def retF (tys : List TI) (rs : List ResultVar) (n : Nat) (Q : PV → List PObj → Prop) : Post
 | .normal, env, st | .ret, env, st => ∃ r r' st', resP tys env st rs = some r ∧ Q r' st' ∧ FLe (fun i => decide (n ≤ i)) st 3 r r' ∧ FSt (fun i => decide (n ≤ i)) st 0 (st.take n) st' ∧ r'.refs (fun i => decide (i < n)) 5 = true ∧ st'.all (PObj.refs (fun i => decide (i < n)) 5) = true
 | _, _, _ => False
theorem PCalls.of {f : FuncId} {fn : Func} {c : Code} {args : List PV} {Q : PV → List PObj → Prop} (hT : Tys P tys) (hf : P.funcs[f]? = some fn) (hb : fn.body = some c) (n : Nat) (hn : st.length ≤ n)
  (h : ∀ B, (∀ j, B.D j = dOf st j) → PW P Gl B c (args ++ List.replicate (fn.ntmps - args.length) .any) st (retF tys fn.results.toList n Q)) : PCalls P Gl f args st Q := fun A w β vals hi ha => by
 refine calls_of_wp hf hb ?_
 have hfr : vals.toArray ++ Array.replicate (fn.ntmps - vals.toArray.size) undef = (vals ++ List.replicate (fn.ntmps - args.length) undef).toArray := by
  rw [ha.1]; simp
 rw [hfr]
 have he : EnvRel A w β (args ++ List.replicate (fn.ntmps - args.length) .any) (vals ++ List.replicate (fn.ntmps - args.length) undef) := by
  refine ⟨by simp [ha.1], fun i p v hp hv => ?_⟩
  by_cases hi' : i < args.length
  ·rw [List.getElem?_append_left hi'] at hp
   rw [List.getElem?_append_left (by rw [← ha.1]; exact hi')] at hv
   exact ha.2 i p v hp hv
  ·rw [List.getElem?_append_right (by omega), List.getElem?_replicate] at hp
   split at hp
   ·cases hp; exact .any ..
   ·cases hp
 refine wp_mono (h _ (fun _ => rfl) A w β _ hi he) ?_
 rintro e a' w' ⟨env', st', A', β', t', rfl, h2, h3, h4⟩
 have fin : (∃ r r' st'', resP tys env' st' fn.results.toList = some r ∧ Q r' st'' ∧ FLe (fun i => decide (n ≤ i)) st' 3 r r' ∧ FSt (fun i => decide (n ≤ i)) st' 0 (st'.take n) st'' ∧ r'.refs (fun i => decide (i < n)) 5 = true ∧ st''.all (PObj.refs (fun i => decide (i < n)) 5) = true) →
   ∃ v, (results fn (⟨t'.toArray, []⟩ : Act).tmps).run P w' = .ok v w' ∧ PRet Gl (base0 A w β st) Q (.returned v) w' := by
  rintro ⟨r, r', st'', g1, g2, g3, g4, g5, g6⟩
  obtain ⟨v, hv, hd⟩ := resP_sound hT h3 h4 g1
  obtain ⟨A2, hE, hden, hinv⟩ := h3.freeze fun i => decide (n ≤ i)
  have hfull := g4.snoc_dead (st'.drop n)
  rw [List.take_append_drop] at hfull
  have h5 := hinv _ hfull
  have hl : st''.length = min n st'.length := by rw [← g4.len]; simp
  by_cases hnl : n ≤ st'.length
  ·have ht : (st'' ++ (st'.drop n).map fun _ => PObj.dead).take n = st'' := by
    rw [List.take_append, List.take_of_length_le (by omega), show n - st''.length = 0 by omega]; simp
   have h6 := h5.take n 5 (by show β.length ≤ n; have := hi.len; omega) (by rw [ht]; exact g6)
   rw [ht] at h6
   exact ⟨v, hv, r', v, st'', A2, β'.take n, rfl, g2, (hden 3 r r' v g3 hd).refsBelow g5, h6⟩
  ·have ht : (st'' ++ (st'.drop n).map fun _ => PObj.dead) = st'' := by
    rw [List.drop_eq_nil_of_le (by omega)]; simp
   rw [ht] at h5
   exact ⟨v, hv, r', v, st'', A2, β', rfl, g2, hden 3 r r' v g3 hd, h5⟩
 cases e with
 | normal => exact ⟨rfl, fin h2⟩
 | ret => exact ⟨rfl, fin h2⟩
 | _ => exact h2.elim
end rules
end Go.Pw
namespace Go.Pw
open Go
section
variable {P : Program} {Gl : Glob} {B : Base} {tys : List TI} {env : List PV} {st : List PObj} {A : Nat → Prop} {w : World} {β β' : List Nat}
def keepsAt (sel : List Nat) (st : List PObj) (j : Nat) : Bool := decide (j < sel.length) && (st.getD (sel.getD j 0) .dead).stays
def idxOutA (sel : List Nat) (st : List PObj) (j : Nat) : Nat := match keepsAt sel st j with | true => sel.getD j 0 | false => st.length + j
def mergeAuxA (sel : List Nat) (st' : List PObj) : Nat → List PObj → List PObj
 | _, [] => []
 | i, x :: xs => (match sel.contains i with | true => (match x.stays with | true => st'.getD (sel.idxOf i) .dead | false => .dead) | false => x) :: mergeAuxA sel st' (i + 1) xs
def newAux (sel : List Nat) (st : List PObj) : Nat → List PObj → List PObj
 | _, [] => []
 | j, y :: ys => (match keepsAt sel st j with | true => .dead | false => y) :: newAux sel st (j + 1) ys
def mergeA (sel : List Nat) (st st' : List PObj) : List PObj := mergeAuxA sel st' 0 st ++ newAux sel st 0 st'
theorem mergeAuxA_get (sel : List Nat) (st' : List PObj) : ∀ (st : List PObj) (k i : Nat), (mergeAuxA sel st' k st)[i]? = (st[i]?).map fun x => match sel.contains (k + i) with | true => (match x.stays with | true => st'.getD (sel.idxOf (k + i)) .dead | false => .dead) | false => x
 | [], k, i => by simp [mergeAuxA]
 | x :: st, k, 0 => by simp [mergeAuxA]
 | x :: st, k, i + 1 => by
  simp only [mergeAuxA, List.getElem?_cons_succ, mergeAuxA_get sel st' st (k + 1) i]
  rw [show k + 1 + i = k + (i + 1) by omega]
theorem mergeAuxA_len (sel : List Nat) (st' : List PObj) : ∀ (st : List PObj) (k : Nat), (mergeAuxA sel st' k st).length = st.length
 | [], _ => rfl
 | _ :: st, k => by simp [mergeAuxA, mergeAuxA_len sel st' st (k + 1)]
theorem newAux_get (sel : List Nat) (st : List PObj) : ∀ (st' : List PObj) (k j : Nat), (newAux sel st k st')[j]? = (st'[j]?).map fun y => match keepsAt sel st (k + j) with | true => .dead | false => y
 | [], k, j => by simp [newAux]
 | y :: st', k, 0 => by simp [newAux]
 | y :: st', k, j + 1 => by
  simp only [newAux, List.getElem?_cons_succ, newAux_get sel st st' (k + 1) j]
  rw [show k + 1 + j = k + (j + 1) by omega]
theorem newAux_len (sel : List Nat) (st : List PObj) : ∀ (st' : List PObj) (k : Nat), (newAux sel st k st').length = st'.length
 | [], _ => rfl
 | _ :: st', k => by simp [newAux, newAux_len sel st st' (k + 1)]
def calleeP (f : PV) (args : List PV) : Option (FuncId × List PV) :=
 match f with
 | .fn f caps => some (f, args ++ caps)
 | .bfn f fs => some (f, fs ++ args)
 | _ => none
theorem calleeP_run {o : Oper} {tmps : List Value} {fop : Operand} {args : Array Operand} {ats : Array TypeId} {f : FuncId} {full : List PV} (he : EnvRel A w β env tmps) (ho : o.op = .call ⟨.value fop, args, ats⟩) (hf : calleeP (pe env fop) (args.toList.map (pe env)) = some (f, full)) (hent : Enters P f) :
  ∃ fv : List Value, full.length = fv.length ∧ (∀ (j : Nat) p v, full[j]? = some p → fv[j]? = some v → Den A w β p v) ∧ (execOp (⟨tmps.toArray, []⟩ : Act).eval o).run P w = .ok (.enter f fv.toArray) w := by
 have harg : ∀ (j : Nat) p v, (args.toList.map (pe env))[j]? = some p → (args.toList.map (⟨tmps.toArray, []⟩ : Act).eval)[j]? = some v → Den A w β p v := fun j p v hp hv => by
  simp only [List.getElem?_map] at hp hv
  cases hy : args.toList[j]? with
  | none => rw [hy] at hp; cases hp
  | some y => rw [hy] at hp hv; cases hp; cases hv; exact he.eval [] y
 have app : ∀ {ps qs : List PV} {us vs : List Value}, ps.length = us.length → (∀ (j : Nat) p v, ps[j]? = some p → us[j]? = some v → Den A w β p v) → (∀ (j : Nat) p v, qs[j]? = some p → vs[j]? = some v → Den A w β p v) →
   ∀ (j : Nat) p v, (ps ++ qs)[j]? = some p → (us ++ vs)[j]? = some v → Den A w β p v := by
  intro ps qs us vs hl h1 h2 j p v hp hv
  by_cases hj : j < ps.length
  ·rw [List.getElem?_append_left hj] at hp
   rw [List.getElem?_append_left (by omega)] at hv
   exact h1 j p v hp hv
  ·rw [List.getElem?_append_right (by omega)] at hp hv
   rw [hl] at hp
   exact h2 _ p v hp hv
 have hfv := he.eval [] fop
 unfold calleeP at hf
 split at hf
 ·rename_i f' caps hfp
  cases hf
  rw [hfp] at hfv
  obtain ⟨cvs, hcv, hcl, hcd⟩ := hfv.fn_inv
  refine ⟨args.toList.map (⟨tmps.toArray, []⟩ : Act).eval ++ cvs, by simp [hcl], app (by simp) harg hcd, ?_⟩
  simp only [execOp, ho, Go.resolve, hcv, Deferred.ofValue, Sem.run_bind, Sem.run_pure, Result.andThen_ok, invoke]
  rw [hent]
  congr 2
  exact Array.ext' (by simp)
 ·rename_i f' fs hfp
  cases hf
  rw [hfp] at hfv
  obtain ⟨cvs, hcv, hcl, hcd⟩ := hfv.bfn_inv
  refine ⟨cvs ++ args.toList.map (⟨tmps.toArray, []⟩ : Act).eval, by simp [hcl], app hcl hcd harg, ?_⟩
  simp only [execOp, ho, Go.resolve, hcv, Deferred.ofValue, Sem.run_bind, Sem.run_pure, Result.andThen_ok, invoke]
  rw [hent]
  congr 2
  exact Array.ext' (by simp)
 ·cases hf
theorem op_callA {o : Oper} {K : PV → List PObj → Prop} {fop : Operand} {args : Array Operand} {ats : Array TypeId} {f : FuncId} {full : List PV} {Q : PV → List PObj → Prop} (sel : List Nat)
  (ho : o.op = .call ⟨.value fop, args, ats⟩) (hf : calleeP (pe env fop) (args.toList.map (pe env)) = some (f, full)) (hent : Enters P f) (hnd : sel.Nodup) (hlive : sel.all (fun i => !(st.getD i .dead).stays || (st.getD i .dead).live) = true)
  (hrefs : full.all (PV.refs sel.contains 5) = true) (hobjs : sel.all (fun i => (st.getD i .dead).refs sel.contains 5) = true)
  {cargs : List PV} {cst : List PObj} (hle : Le (full.map (PV.ren (idxIn sel) 5)) cargs) (hls : StLe (selSt sel st) cst) (hc : PCalls P Gl f cargs cst Q)
  (hK : ∀ r st', Q r st' → r.refs (fun _ => true) 5 = true ∧ st'.all (PObj.refs (fun _ => true) 5) = true ∧ K (r.ren (idxOutA sel st) 5) (mergeA sel st (st'.map (PObj.ren (idxOutA sel st) 5)))) :
  OpP P Gl B o env st K := fun A w β tmps Q' hi he => by
 have hlen := hi.len
 have hso : ∀ i ∈ sel, ∃ x, st[i]? = some x ∧ (x.live = true ∨ x.stays = false) := fun i h => by
  have := List.all_eq_true.1 hlive i h
  cases hx : st[i]? with
  | none => simp [List.getD, hx, PObj.live, PObj.stays] at this
  | some x =>
   simp only [List.getD, hx, Option.getD_some, Bool.or_eq_true, Bool.not_eq_true'] at this
   exact ⟨x, rfl, this.symm⟩
 have hsb : ∀ i ∈ sel, ∃ b, β[i]? = some b := fun i h => by
  obtain ⟨x, hx, _⟩ := hso i h
  have : i < β.length := by rw [hlen]; exact (List.getElem?_eq_some_iff.1 hx).1
  exact ⟨_, List.getElem?_eq_getElem this⟩
 -- the callee's blocks
 let γ : List Nat := sel.map fun i => β.getD i 0
 have hγ : ∀ {j b : Nat}, γ[j]? = some b → ∃ i, sel[j]? = some i ∧ β[i]? = some b := by
  intro j b h
  simp only [γ, List.getElem?_map] at h
  cases hx : sel[j]? with
  | none => rw [hx] at h; cases h
  | some i =>
   rw [hx] at h
   cases h
   obtain ⟨b', hb'⟩ := hsb i (List.mem_of_getElem? hx)
   exact ⟨i, rfl, by simp [List.getD, hb']⟩
 have hin : ∀ (i b : Nat), sel.contains i = true → β[i]? = some b → γ[idxIn sel i]? = some b := by
  intro i b h hb
  have hm : i ∈ sel := by simpa using h
  have hlt := List.idxOf_lt_length_of_mem hm
  simp only [γ, idxIn, List.getElem?_map, List.getElem?_eq_getElem hlt, List.getElem_idxOf hlt, Option.map_some, List.getD, hb, Option.getD_some]
 have hrl : ∀ (y : PObj) (r : Nat → Nat) n, (y.ren r n).live = y.live := fun y r n => by cases y <;> rfl
 have hrs : ∀ (y : PObj) (r : Nat → Nat) n, (y.ren r n).stays = y.stays := fun y r n => by cases y <;> rfl
 have hcst : ∀ {j : Nat} {x : PObj}, (selSt sel st)[j]? = some x → ∃ i y, sel[j]? = some i ∧ st[i]? = some y ∧ x = y.ren (idxIn sel) 5 ∧ y.refs sel.contains 5 = true := by
  intro j x h
  simp only [selSt, List.getElem?_map] at h
  cases hx : sel[j]? with
  | none => rw [hx] at h; cases h
  | some i =>
   rw [hx] at h
   cases h
   obtain ⟨y, hy, hl⟩ := hso i (List.mem_of_getElem? hx)
   have hr := List.all_eq_true.1 hobjs i (List.mem_of_getElem? hx)
   simp only [List.getD, hy, Option.getD_some] at hr ⊢
   exact ⟨i, y, rfl, hy, rfl, hr⟩
 have hlv : ∀ {j : Nat}, liveAt (selSt sel st) j → ∃ i, sel[j]? = some i ∧ liveAt st i := fun {j} ⟨x, hx, hl⟩ => by
  obtain ⟨i, y, h1, h2, rfl, _⟩ := hcst hx
  exact ⟨i, h1, y, h2, by rw [hrl] at hl; exact hl⟩
 have hjj : ∀ {j k i : Nat}, sel[j]? = some i → sel[k]? = some i → j = k := fun {j k i} h1 h2 => by
  have a := (List.getElem?_eq_some_iff.1 h1)
  have b := (List.getElem?_eq_some_iff.1 h2)
  obtain ⟨l1, e1⟩ := a
  obtain ⟨l2, e2⟩ := b
  have hp := List.pairwise_iff_getElem.1 hnd
  rcases Nat.lt_trichotomy j k with h | h | h
  ·exact (hp j k l1 l2 h (e1.trans e2.symm)).elim
  ·exact h
  ·exact (hp k j l2 l1 h (e2.trans e1.symm)).elim
 have hK0 : ∀ {b : Nat}, (base0 A w γ (selSt sel st)).K b → ∃ i, i ∈ sel ∧ β[i]? = some b ∧ liveAt st i := fun {b} ⟨j, hj, hl⟩ => by
  obtain ⟨i1, s1, b1⟩ := hγ hj
  obtain ⟨i2, s2, l2⟩ := hlv hl
  rw [s1] at s2; cases s2
  exact ⟨i1, List.mem_of_getElem? s1, b1, l2⟩
 have hic0 : Inv Gl (base0 A w γ (selSt sel st)) A w γ (selSt sel st) := by
  have hr := hi.rebase
  refine ⟨by simp [γ, selSt], ?_, ?_, ?_, ?_, hi.lt, fun b h => .inl h, fun b h => h, Nat.le_refl _, rfl, rfl, rfl, fun _ _ _ => rfl, ?_, fun i b _ h => h, fun b hb => ⟨fun hk => ?_, hi.lt b hb⟩⟩
  ·intro j k b h1 h2 l1 l2
   obtain ⟨i1, s1, b1⟩ := hγ h1
   obtain ⟨i2, s2, b2⟩ := hγ h2
   obtain ⟨i1', t1, v1⟩ := hlv l1
   obtain ⟨i2', t2, v2⟩ := hlv l2
   rw [s1] at t1; cases t1
   rw [s2] at t2; cases t2
   have := hi.inj i1 i2 b b1 b2 v1 v2
   subst this
   exact hjj s1 s2
  ·intro j b x h1 h2
   obtain ⟨i1, s1, b1⟩ := hγ h1
   obtain ⟨i2, y, s2, hy, rfl, hr⟩ := hcst h2
   rw [s1] at s2; cases s2
   exact (hi.obj i1 b y b1 hy).ren hin hr
  ·intro j b h1 l1
   obtain ⟨i1, s1, b1⟩ := hγ h1
   obtain ⟨i1', t1, v1⟩ := hlv l1
   rw [s1] at t1; cases t1
   exact hi.notA i1 b b1 v1
  ·intro j b h1 l1; exact .inl ⟨j, h1, l1⟩
  ·intro b hb
   obtain ⟨g1, g2, g3, g4⟩ := hr.glob b hb
   refine ⟨g1, fun hm => ?_, g3, g4⟩
   obtain ⟨i1, s1, b1, v1⟩ := hK0 hm
   exact g2 ⟨i1, b1, v1⟩
  ·obtain ⟨i1, s1, b1, v1⟩ := hK0 hk
   exact hi.notA i1 b b1 v1 hb
 have hic := (hic0.weaken hls).rebase
 have hKsel : ∀ {b : Nat}, (base0 A w γ cst).K b → ∃ i, i ∈ sel ∧ β[i]? = some b ∧ liveAt st i := fun {b} ⟨j, hj, o, ho, hl⟩ => by
  refine hK0 ⟨j, hj, ?_⟩
  obtain ⟨q, hq, hr⟩ := hls.get j o ho
  rcases hr with rfl | rfl | ⟨cs, ds, rfl, rfl, _⟩
  ·exact ⟨_, hq, hl⟩
  ·cases hl
  ·exact ⟨_, hq, rfl⟩
 -- the arguments
 obtain ⟨fv, hfl, hfd, hrun⟩ := calleeP_run (P := P) (o := o) he ho hf hent
 have hargs : ArgRel A w γ (full.map (PV.ren (idxIn sel) 5)) fv := by
  refine ⟨by simp [hfl], fun j p v hp hv => ?_⟩
  rw [List.getElem?_map] at hp
  cases hx : full[j]? with
  | none => rw [hx] at hp; cases hp
  | some x =>
   rw [hx] at hp
   cases hp
   exact Den.ren hin 5 (hfd j x v hx hv) (List.all_eq_true.1 hrefs x (List.mem_of_getElem? hx))
 have hcall := hc A w γ _ hic (hargs.weaken hle)
 unfold Oper.wp
 rw [hrun]
 refine hcall.mono ?_
 rintro e w' ⟨r, v, st', A', β', rfl, hq, hd, hi'⟩
 have hE : Ext A w A' w' := hi'.ext0
 have hP : ∀ (j b : Nat), keepsAt sel st j = true → γ[j]? = some b → β'[j]? = some b := fun j b hkp hj => by
  refine hi'.pre j b ?_ hj
  obtain ⟨i1, s1, b1⟩ := hγ hj
  have hs1 : (st.getD i1 .dead).stays = true := by
   simp only [keepsAt, List.getD, s1, Option.getD_some, Bool.and_eq_true] at hkp
   exact hkp.2
  have hjl : j < cst.length := by rw [← hls.len]; simp only [selSt, List.length_map]; exact (List.getElem?_eq_some_iff.1 s1).1
  have hcj : cst[j]? = some cst[j] := List.getElem?_eq_getElem hjl
  show ((cst[j]?).map PObj.stays).getD false = true
  rw [hcj]
  obtain ⟨q, hq, hr⟩ := hls.get j _ hcj
  simp only [selSt, List.getElem?_map, s1, Option.map_some] at hq
  cases hq
  rcases hr with hr | hr | ⟨cs, ds, h1, h2, _⟩
  ·show cst[j].stays = true
   rw [← hr, hrs]; exact hs1
  ·rw [hr]; rfl
  ·rw [h2]; rfl
 obtain ⟨hr1, hr2, hk⟩ := hK r st' hq
 have hlen' := hi'.len
 -- the caller's blocks behind the call
 let δ : List Nat := β ++ β'
 have hout : ∀ (j b : Nat), true = true → β'[j]? = some b → δ[idxOutA sel st j]? = some b := by
  intro j b _ hb
  simp only [idxOutA]
  cases hkp : keepsAt sel st j with
  | true =>
   have hj : j < sel.length := by simp only [keepsAt, Bool.and_eq_true, decide_eq_true_eq] at hkp; exact hkp.1
   have hs : sel[j]? = some sel[j] := List.getElem?_eq_getElem hj
   obtain ⟨b', hb'⟩ := hsb sel[j] (List.getElem_mem hj)
   have hγj : γ[j]? = some b' := by simp only [γ, List.getElem?_map, hs, Option.map_some, List.getD, hb', Option.getD_some]
   have := hP j b' hkp hγj
   rw [hb] at this
   cases this
   simp only [List.getD, hs, Option.getD_some]
   exact Pre.snoc _ _ _ _ hb'
  | false =>
   simp only
   rw [List.getElem?_append_right (by omega), hlen, Nat.add_sub_cancel_left]
   exact hb
 have hkeep : ∀ {i b : Nat}, β[i]? = some b → liveAt st i → i ∉ sel → w'.heap[b]? = w.heap[b]? := by
  intro i b hb hl hns
  refine hi'.keep b ((hi.obj i b _ hb hl.choose_spec.1).lt hl.choose_spec.2) (fun hm => ?_)
  obtain ⟨i1, s1, b1, v1⟩ := hKsel hm
  have := hi.inj i i1 b hb b1 hl v1
  subst this
  exact hns s1
 have hmget : ∀ {i : Nat} {x : PObj}, (mergeA sel st (st'.map (PObj.ren (idxOutA sel st) 5)))[i]? = some x →
   (i < st.length ∧ i ∉ sel ∧ st[i]? = some x) ∨ (∃ j y, st'[j]? = some y ∧ x = y.ren (idxOutA sel st) 5 ∧ i = idxOutA sel st j) ∨ x = .dead := by
  intro i x h
  simp only [mergeA] at h
  by_cases hil : i < st.length
  ·rw [List.getElem?_append_left (by rw [mergeAuxA_len]; exact hil), mergeAuxA_get, List.getElem?_eq_getElem hil, Nat.zero_add] at h
   simp only [Option.map_some, Option.some.injEq] at h
   cases hcn : sel.contains i with
   | true =>
    have hm : i ∈ sel := by simpa using hcn
    have hlt := List.idxOf_lt_length_of_mem hm
    rw [hcn] at h
    cases hsy : st[i].stays with
    | false => rw [hsy] at h; exact .inr (.inr h.symm)
    | true =>
     rw [hsy] at h
     simp only at h
     cases hx : st'[sel.idxOf i]? with
     | none => right; right; rw [← h]; simp [List.getD, hx]
     | some y =>
      right; left
      refine ⟨sel.idxOf i, y, hx, by rw [← h]; simp [List.getD, hx], ?_⟩
      have hkp : keepsAt sel st (sel.idxOf i) = true := by
       simp only [keepsAt, List.getD, List.getElem?_eq_getElem hlt, List.getElem_idxOf hlt, Option.getD_some, List.getElem?_eq_getElem hil, hsy, Bool.and_true, decide_eq_true_eq]
       exact hlt
      simp only [idxOutA, hkp, List.getD, List.getElem?_eq_getElem hlt, List.getElem_idxOf hlt, Option.getD_some]
   | false =>
    rw [hcn] at h
    simp only at h
    left
    exact ⟨hil, by simpa using hcn, by rw [← h]; exact List.getElem?_eq_getElem hil⟩
  ·rw [List.getElem?_append_right (by rw [mergeAuxA_len]; omega), mergeAuxA_len, newAux_get, Nat.zero_add, List.getElem?_map] at h
   cases hx : st'[i - st.length]? with
   | none => rw [hx] at h; cases h
   | some y =>
    rw [hx] at h
    simp only [Option.map_some, Option.some.injEq] at h
    cases hkp : keepsAt sel st (i - st.length) with
    | true => rw [hkp] at h; exact .inr (.inr h.symm)
    | false =>
     rw [hkp] at h
     right; left
     refine ⟨_, y, hx, h.symm, ?_⟩
     simp only [idxOutA, hkp]
     omega
 have hδget : ∀ {i b : Nat}, δ[i]? = some b → i < st.length → β[i]? = some b := fun {i b} h hl => by
  rw [List.getElem?_append_left (by omega)] at h; exact h
 have hAsub : ∀ b, A' b → A b ∨ (∃ i, i ∈ sel ∧ β[i]? = some b ∧ liveAt st i) ∨ w.heap.size ≤ b := fun b hb => (hi'.new b hb).imp_right (Or.imp_left hKsel)
 have hfin : Inv Gl B A' w' δ (mergeA sel st (st'.map (PObj.ren (idxOutA sel st) 5))) := by
  have lv : ∀ {i b : Nat}, δ[i]? = some b → liveAt (mergeA sel st (st'.map (PObj.ren (idxOutA sel st) 5))) i →
    (i ∉ sel ∧ β[i]? = some b ∧ liveAt st i ∧ b < w.heap.size) ∨ (∃ j y, st'[j]? = some y ∧ y.live = true ∧ i = idxOutA sel st j ∧ β'[j]? = some b) := by
   intro i b hb ⟨x, hx, hl⟩
   rcases hmget hx with ⟨g1, g2, g3⟩ | ⟨j, y, g1, rfl, g3⟩ | rfl
   ·left
    have hbb := hδget hb g1
    exact ⟨g2, hbb, ⟨x, g3, hl⟩, (hi.obj i b x hbb g3).lt hl⟩
   ·right
    have hjl : j < β'.length := by rw [hlen']; exact (List.getElem?_eq_some_iff.1 g1).1
    have hbj : β'[j]? = some β'[j] := List.getElem?_eq_getElem hjl
    have := hout j _ rfl hbj
    rw [← g3, hb] at this
    cases this
    exact ⟨j, y, g1, by rw [← hl, hrl], g3, hbj⟩
   ·cases hl
  have cross : ∀ {i j b : Nat}, i ∉ sel → β[i]? = some b → liveAt st i → β'[j]? = some b → liveAt st' j → False := by
   intro i j b hns hb hl hbj hlj
   have hlt := (hi.obj i b _ hb hl.choose_spec.1).lt hl.choose_spec.2
   rcases hi'.own j b hbj hlj with h | h
   ·obtain ⟨i1, s1, b1, v1⟩ := hKsel h
    have := hi.inj i i1 b hb b1 hl v1
    subst this
    exact hns s1
   ·exact Nat.lt_irrefl _ (Nat.lt_of_lt_of_le hlt h)
  refine ⟨?_, ?_, ?_, ?_, ?_, hi'.lt, ?_, fun b hb => hE.sub b (hi.old b hb), Nat.le_trans hi.size hi'.size, hi'.os.trans hi.os, hi'.tape.trans hi.tape, hi'.output.trans hi.output, ?_, hi.glob, fun i b h1 h2 => Pre.snoc _ _ _ _ (hi.pre i b h1 h2), hi.apart⟩
  ·simp only [δ, mergeA, List.length_append, mergeAuxA_len, newAux_len, List.length_map]; omega
  ·intro i k b h1 h2 l1 l2
   rcases lv h1 l1 with ⟨n1, b1, v1, _⟩ | ⟨j1, y1, s1, v1, e1, b1⟩ <;> rcases lv h2 l2 with ⟨n2, b2, v2, _⟩ | ⟨j2, y2, s2, v2, e2, b2⟩
   ·exact hi.inj i k b b1 b2 v1 v2
   ·exact (cross n1 b1 v1 b2 ⟨y2, s2, v2⟩).elim
   ·exact (cross n2 b2 v2 b1 ⟨y1, s1, v1⟩).elim
   ·rw [e1, e2, hi'.inj j1 j2 b b1 b2 ⟨y1, s1, v1⟩ ⟨y2, s2, v2⟩]
  ·intro i b x h1 h2
   rcases hmget h2 with ⟨g1, g2, g3⟩ | ⟨j, y, g1, rfl, g3⟩ | rfl
   ·have hbb := hδget h1 g1
    cases hxl : x.live with
    | false => exact (hi.obj i b x hbb g3).still hxl
    | true => exact (hi.obj i b x hbb g3).mono hE (Pre.snoc _ _) (hkeep hbb ⟨x, g3, hxl⟩ g2)
   ·have hjl : j < β'.length := by rw [hlen']; exact (List.getElem?_eq_some_iff.1 g1).1
    have hbj : β'[j]? = some β'[j] := List.getElem?_eq_getElem hjl
    have := hout j _ rfl hbj
    rw [← g3, h1] at this
    cases this
    exact (hi'.obj j _ y hbj g1).ren hout (List.all_eq_true.1 hr2 y (List.mem_of_getElem? g1))
   ·trivial
  ·intro i b h1 l1 hA
   rcases lv h1 l1 with ⟨n1, b1, v1, hlt⟩ | ⟨j1, y1, s1, v1, e1, b1⟩
   ·rcases hAsub b hA with h | h | h
    ·exact hi.notA i b b1 v1 h
    ·obtain ⟨i1, g1, b2, v2⟩ := h
     have := hi.inj i i1 b b1 b2 v1 v2
     subst this
     exact n1 g1
    ·omega
   ·exact hi'.notA j1 b b1 ⟨y1, s1, v1⟩ hA
  ·intro i b h1 l1
   rcases lv h1 l1 with ⟨n1, b1, v1, hlt⟩ | ⟨j1, y1, s1, v1, e1, b1⟩
   ·exact hi.own i b b1 v1
   ·rcases hi'.own j1 b b1 ⟨y1, s1, v1⟩ with h | h
    ·obtain ⟨i1, g1, b2, v2⟩ := hKsel h
     exact hi.own i1 b b2 v2
    ·right; exact Nat.le_trans hi.size h
  ·intro b hb
   rcases hAsub b hb with h | h | h
   ·exact hi.new b h
   ·obtain ⟨i1, g1, b2, v2⟩ := h
    rcases hi.own i1 b b2 v2 with h | h
    ·exact .inr (.inl h)
    ·exact .inr (.inr h)
   ·exact .inr (.inr (Nat.le_trans hi.size h))
  ·intro b hb hk
   rw [hi'.keep b (Nat.lt_of_lt_of_le hb hi.size) (fun hm => ?_)]
   ·exact hi.keep b hb hk
   ·obtain ⟨i1, g1, b2, v2⟩ := hKsel hm
    rcases hi.own i1 b b2 v2 with h | h
    ·exact hk h
    ·omega
 exact ⟨v, _, _, A', δ, rfl, hk, hd.ren hout 5 hr1, hfin, hE, Pre.snoc _ _⟩
def mvP (i L : Nat) (p : PV) : PV := match p.refs (fun j => j != i && j != L) 5 with
 | true => p
 | false => match p.refs (fun j => j != i) 5 with
  | true => p.ren (fun j => match Nat.beq j L with | true => i | false => j) 5
  | false => .any
def mvO (i L : Nat) : PObj → PObj
 | .box cs => .box (cs.map (mvP i L))
 | .map es => .map (es.map fun e => (e.1, mvP i L e.2))
 | .kmap es c => .kmap (es.map fun e => (e.1, e.2.1, mvP i L e.2.2)) c
 | .iter m s l c => .iter (m.bind fun m => match Nat.beq m i || Nat.beq m L with | true => none | false => some m) s l c
 | o => o
theorem Den.mv {i L : Nat} (h1 : ∀ (k b : Nat), k ≠ i → k ≠ L → β[k]? = some b → β'[k]? = some b) (h2 : ∀ b, β[L]? = some b → β'[i]? = some b) {p : PV} {v : Value} (h : Den A w β p v) : Den A w β' (mvP i L p) v := by
 unfold mvP
 split
 ·rename_i hp
  have := h.ren (β' := β') (r := fun i => i) (fun k b hk hb => by
   simp only [Bool.and_eq_true, bne_iff_ne, ne_eq] at hk
   exact h1 k b hk.1 hk.2 hb) 5 hp
  rwa [PV.ren_id] at this
 ·split
  ·rename_i hp
   refine h.ren (fun k b hk hb => ?_) 5 hp
   simp only [bne_iff_ne, ne_eq] at hk
   cases hkL : Nat.beq k L with
   | true =>
    have := Nat.eq_of_beq_eq_true hkL
    subst this
    exact h2 b hb
   | false => exact h1 k b hk (fun e => by subst e; rw [Nat.beq_refl] at hkL; cases hkL) hb
  ·exact .any ..
theorem mvO_live (i L : Nat) (o : PObj) : (mvO i L o).live = o.live := by cases o <;> rfl
theorem Inv.mv {i L : Nat} {x : PObj} (hi : Inv Gl B A w β st) (hLx : st[L]? = some x) (hiL : i ≠ L) (hdead : ((st[i]?).map PObj.live) = some false) (hBi : B.D i = false) (_hBL : B.D L = false) :
  ∃ β', Inv Gl B A w β' (((st.map (mvO i L)).set L .dead).set i (mvO i L x)) ∧ ∀ p v, Den A w β p v → Den A w β' (mvP i L p) v := by
 have hlen := hi.len
 have hLl : L < st.length := (List.getElem?_eq_some_iff.1 hLx).1
 have hil : i < st.length := by
  cases hx : st[i]? with
  | none => rw [hx] at hdead; cases hdead
  | some y => exact (List.getElem?_eq_some_iff.1 hx).1
 have hbL : β[L]? = some (β[L]'(by omega)) := List.getElem?_eq_getElem (by omega)
 generalize (β[L]'(by omega)) = b at hbL
 have g1 : ∀ (k c : Nat), k ≠ i → k ≠ L → β[k]? = some c → (β.set i b)[k]? = some c := fun k c h1 h2 hc => by
  rw [List.getElem?_set, if_neg (fun e => h1 e.symm)]; exact hc
 have g2 : ∀ c, β[L]? = some c → (β.set i b)[i]? = some c := fun c hc => by
  rw [hbL] at hc; cases hc
  rw [List.getElem?_set_self (by omega)]
 have hden : ∀ p v, Den A w β p v → Den A w (β.set i b) (mvP i L p) v := fun p v h => h.mv g1 g2
 have hob : ∀ {c : Nat} {y : PObj}, ObjRel A β w c y → ObjRel A (β.set i b) w c (mvO i L y) := fun {c y} h => by
  cases y with
  | dead => trivial
  | box cs =>
   obtain ⟨vs, T, fr, q1, q2, q3, q4⟩ := h
   refine ⟨vs, T, fr, q1, by simpa using q2, by simpa using q3, fun m z v hz hv => ?_⟩
   rw [List.getElem?_map] at hz
   cases hy : cs[m]? with
   | none => rw [hy] at hz; cases hz
   | some y => rw [hy] at hz; cases hz; exact hden _ _ (q4 m y v hy hv)
  | arr k xs cap => exact h
  | map es =>
   obtain ⟨mes, cl, q1, q2, q3⟩ := h
   refine ⟨mes, cl, q1, by simpa using q2, fun m kk v hm => ?_⟩
   rw [List.getElem?_map] at hm
   cases hz : es[m]? with
   | none => rw [hz] at hm; cases hm
   | some z =>
    rw [hz] at hm
    cases hm
    obtain ⟨e, r1, r2, r3⟩ := q3 m z.1 z.2 hz
    exact ⟨e, r1, r2, hden _ _ r3⟩
  | kmap es cl =>
   obtain ⟨mes, q1, q2, q3⟩ := h
   refine ⟨mes, q1, by simpa using q2, fun m bn kk v hm => ?_⟩
   rw [List.getElem?_map] at hm
   cases hz : es[m]? with
   | none => rw [hz] at hm; cases hm
   | some z =>
    rw [hz] at hm
    cases hm
    obtain ⟨e, r1, r0, r2, r3⟩ := q3 m z.1 z.2.1 z.2.2 hz
    exact ⟨e, r1, r0, r2, hden _ _ r3⟩
  | iter m s l cl =>
   cases m with
   | none => exact h
   | some m =>
    obtain ⟨mb, q1, q2⟩ := h
    show ObjRel A (β.set i b) w c (.iter (match Nat.beq m i || Nat.beq m L with | true => none | false => some m) s l cl)
    cases hm : Nat.beq m i || Nat.beq m L with
    | true => exact ⟨_, q2⟩
    | false =>
     rw [Bool.or_eq_false_iff] at hm
     exact ⟨mb, g1 m mb (fun e => by subst e; rw [Nat.beq_refl] at hm; cases hm.1) (fun e => by subst e; rw [Nat.beq_refl] at hm; cases hm.2) q1, q2⟩
 have hs : ∀ {j : Nat} {o : PObj}, (((st.map (mvO i L)).set L .dead).set i (mvO i L x))[j]? = some o → (j = i ∧ o = mvO i L x) ∨ (j = L ∧ o = .dead) ∨ (j ≠ i ∧ j ≠ L ∧ ∃ y, st[j]? = some y ∧ o = mvO i L y) := by
  intro j o h
  rw [List.getElem?_set] at h
  split at h
  ·rename_i e
   split at h
   ·cases h; exact .inl ⟨e.symm, rfl⟩
   ·cases h
  ·rename_i e
   rw [List.getElem?_set] at h
   split at h
   ·rename_i e2
    split at h
    ·cases h; exact .inr (.inl ⟨e2.symm, rfl⟩)
    ·cases h
   ·rename_i e2
    rw [List.getElem?_map] at h
    cases hy : st[j]? with
    | none => rw [hy] at h; cases h
    | some y => rw [hy] at h; cases h; exact .inr (.inr ⟨fun h => e h.symm, fun h => e2 h.symm, y, rfl, rfl⟩)
 have hβ : ∀ {j c : Nat}, (β.set i b)[j]? = some c → (j = i ∧ c = b) ∨ (j ≠ i ∧ β[j]? = some c) := by
  intro j c h
  rw [List.getElem?_set] at h
  split at h
  ·rename_i e
   split at h
   ·cases h; exact .inl ⟨e.symm, rfl⟩
   ·cases h
  ·rename_i e; exact .inr ⟨fun h => e h.symm, h⟩
 have lv : ∀ {j c : Nat}, (β.set i b)[j]? = some c → liveAt (((st.map (mvO i L)).set L .dead).set i (mvO i L x)) j → ∃ k, β[k]? = some c ∧ liveAt st k ∧ ((j = i ∧ k = L) ∨ (j ≠ i ∧ j ≠ L ∧ k = j)) := by
  intro j c h ⟨o, ho, hl⟩
  rcases hs ho with ⟨f1, rfl⟩ | ⟨f1, rfl⟩ | ⟨f1, f2, y, hy, rfl⟩
  ·rcases hβ h with ⟨e1, rfl⟩ | ⟨e1, _⟩
   ·exact ⟨L, hbL, ⟨x, hLx, by rw [mvO_live] at hl; exact hl⟩, .inl ⟨f1, rfl⟩⟩
   ·exact (e1 f1).elim
  ·cases hl
  ·rcases hβ h with ⟨e1, rfl⟩ | ⟨e1, e2⟩
   ·exact (f1 e1).elim
   ·exact ⟨j, e2, ⟨y, hy, by rw [mvO_live] at hl; exact hl⟩, .inr ⟨f1, f2, rfl⟩⟩
 refine ⟨β.set i b, ⟨by simpa using hlen, ?_, ?_, ?_, ?_, hi.lt, hi.new, hi.old, hi.size, hi.os, hi.tape, hi.output, hi.keep, hi.glob, ?_, hi.apart⟩, hden⟩
 ·intro j k c h1 h2 l1 l2
  obtain ⟨j', b1, v1, e1⟩ := lv h1 l1
  obtain ⟨k', b2, v2, e2⟩ := lv h2 l2
  have := hi.inj j' k' c b1 b2 v1 v2
  omega
 ·intro j c o h1 h2
  rcases hs h2 with ⟨f1, rfl⟩ | ⟨f1, rfl⟩ | ⟨f1, f2, y, hy, rfl⟩
  ·rcases hβ h1 with ⟨e1, rfl⟩ | ⟨e1, _⟩
   ·exact hob (hi.obj L _ x hbL hLx)
   ·exact (e1 f1).elim
  ·trivial
  ·rcases hβ h1 with ⟨e1, rfl⟩ | ⟨e1, e2⟩
   ·exact (f1 e1).elim
   ·exact hob (hi.obj j c y e2 hy)
 ·intro j c h1 l1
  obtain ⟨j', b1, v1, e1⟩ := lv h1 l1
  exact hi.notA j' c b1 v1
 ·intro j c h1 l1
  obtain ⟨j', b1, v1, e1⟩ := lv h1 l1
  exact hi.own j' c b1 v1
 ·intro j c h1 h2
  have hji : j ≠ i := fun e => by subst e; rw [hBi] at h1; cases h1
  rw [List.getElem?_set, if_neg (fun e => hji e.symm)]
  exact hi.pre j c h1 h2
theorem pw_mv (i L : Nat) {Q : Post} {c : Code} {x : PObj} {st0 : List PObj} (hD : ∀ j, B.D j = dOf st0 j) (hLx : st[L]? = some x) (hiL : Nat.beq i L = false) (hdead : ((st[i]?).map PObj.live) = some false) (h0 : dOf st0 i = false) (h1 : dOf st0 L = false)
  (h : PW P Gl B c (env.map (mvP i L)) (((st.map (mvO i L)).set L .dead).set i (mvO i L x)) Q) : PW P Gl B c env st Q := fun A w β tmps hi he => by
 obtain ⟨β', h2, h3⟩ := hi.mv hLx (fun e => by subst e; rw [Nat.beq_refl] at hiL; cases hiL) hdead (by rw [hD]; exact h0) (by rw [hD]; exact h1)
 refine h A w β' tmps h2 ⟨by simpa using he.1, fun j p v hp hv => ?_⟩
 rw [List.getElem?_map] at hp
 cases hz : env[j]? with
 | none => rw [hz] at hp; cases hp
 | some z => rw [hz] at hp; cases hp; exact h3 z v (he.2 j z v hz hv)
theorem pw_trim (n : Nat) {Q : Post} {c : Code} {st0 : List PObj} (hD : ∀ j, B.D j = dOf st0 j) (hn : Nat.ble st0.length n = true) (hr : (env.all (PV.refs (fun i => Nat.blt i n) 5) && (st.take n).all (PObj.refs (fun i => Nat.blt i n) 5)) = true)
  (h : PW P Gl B c env (st.take n) Q) : PW P Gl B c env st Q := fun A w β tmps hi he => by
 simp only [Bool.and_eq_true] at hr
 have hlt : (fun i => Nat.blt i n) = fun i => decide (i < n) := by
  funext i
  exact Bool.eq_iff_iff.2 (by simp)
 rw [hlt] at hr
 have hg : ∀ {i b : Nat}, (β.take n)[i]? = some b → β[i]? = some b := fun {i b} h => by
  rw [List.getElem?_take] at h
  split at h
  ·exact h
  ·cases h
 have hgr : ∀ (i b : Nat), decide (i < n) = true → β[i]? = some b → (β.take n)[i]? = some b := fun i b h1 h2 => by
  simp only [decide_eq_true_eq] at h1
  rw [List.getElem?_take, if_pos h1]; exact h2
 refine h A w (β.take n) tmps ⟨by simp [hi.len], ?_, ?_, ?_, ?_, hi.lt, hi.new, hi.old, hi.size, hi.os, hi.tape, hi.output, hi.keep, hi.glob, fun i b h1 h2 => ?_, hi.apart⟩ ⟨he.1, fun j p v hp hv => ?_⟩
 ·intro i j b h1 h2 l1 l2; exact hi.inj i j b (hg h1) (hg h2) (liveAt_take l1).1 (liveAt_take l2).1
 ·intro i b o h1 h2
  have h2' := h2
  rw [List.getElem?_take] at h2'
  split at h2'
  ·have := (hi.obj i b o (hg h1) h2').ren (β' := β.take n) (r := fun i => i) hgr (List.all_eq_true.1 hr.2 o (List.mem_of_getElem? h2))
   rwa [PObj.ren_id] at this
  ·cases h2'
 ·intro i b h1 l1; exact hi.notA i b (hg h1) (liveAt_take l1).1
 ·intro i b h1 l1; exact hi.own i b (hg h1) (liveAt_take l1).1
 ·have hlt : i < st0.length := by
   rw [hD] at h1
   unfold dOf at h1
   cases hx : st0[i]? with
   | none => rw [hx] at h1; cases h1
   | some x => exact (List.getElem?_eq_some_iff.1 hx).1
  have := Nat.le_of_ble_eq_true hn
  rw [List.getElem?_take, if_pos (by omega)]; exact hi.pre i b h1 h2
 ·have := (he.2 j p v hp hv).ren (β' := β.take n) (r := fun i => i) hgr 5 (List.all_eq_true.1 hr.1 p (List.mem_of_getElem? hp))
  rwa [PV.ren_id] at this
end
end Go.Pw
