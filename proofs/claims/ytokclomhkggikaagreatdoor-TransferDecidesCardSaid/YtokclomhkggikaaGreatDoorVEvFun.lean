/-
 Functions.
 Calls, down to the depth.
 Every operation.
-/
import Derived.Calls
import Derived.Test.YtokclomhkggikaaGreatDoorVEvDelta
namespace Go.Ev
open Go
noncomputable section
section
variable {P : Program} {gl : List (Nat × List V)}
def resRun (tmps : Array Value) : ResultVar → Sem Value
 | .tmp t => pure (tmps.getD t undef)
 | .cell a t => do loadVar t (← asAddr (tmps.getD a undef))
theorem resK_ok {r : ResultVar} {env : Env} {st : St} {k : V → R} {outs : List Dl} (hok : st.Ok) (h : resK P r env st k = some outs) {B : Base} {w : World} {β : List Nat} {tmps : List Value} (hi : Inv gl B w β (lst st)) (he : EnvRel β env tmps) :
  ∃ x v, (resRun tmps.toArray r).run P w = .ok v w ∧ Den β x v ∧ ∃ outs', k x = some outs' ∧ ∀ d ∈ outs', d ∈ outs := by
 cases r with
 | tmp t =>
  obtain ⟨p, hd, h1⟩ := opG_den (x := .tmp t) he h
  exact ⟨p, _, rfl, hd, outs, h1, fun _ h => h⟩
 | cell a t =>
  unfold resK at h
  simp only [] at h
  cases ht : tyOf P t with
  | none => rw [ht] at h; cases h
  | some ti =>
   rw [ht] at h
   obtain ⟨hk, h1⟩ := iff_some h
   obtain ⟨p, hp, h2⟩ := opG_den (x := .tmp a) he h1
   have h3 : sLoad gl ti.tk.agg ti.size (opG (.tmp a)) (fun _ _ _ _ => none) env st (fun v _ => k v) = some outs := by
    rcases opG_pure (.tmp a) env with ⟨q, hq⟩ | hq
    ·have h4 := h1
     change opG (.tmp a) env _ = some outs at h4
     rw [hq] at h4
     unfold sLoad
     rw [hq]
     cases q <;> first | (cases h4; done) | exact h4
    ·have h4 := h1
     change opG (.tmp a) env _ = some outs at h4
     rw [hq] at h4; cases h4
   obtain ⟨x, v, hr, hx, outs', g1, g2⟩ := ok_load (P := P) (gl := gl) (CO := fun _ => True) ht hk ⟨none, .load t (.tmp a), 0, "", #[], none⟩ rfl _ trivial env st _ outs hok h3 B w β tmps hi he
   cases p <;> first | (cases h2; done) | skip
   rename_i i off
   obtain ⟨b, hb, hv⟩ := hp.ptr_inv
   have hv' : tmps.toArray.getD a undef = .pointer (some ⟨b, off, none⟩) := hv
   refine ⟨x, v, ?_, hx, outs', g1, g2⟩
   simp only [execOp, Instr.loadAt, Sem.run_bind, hv, Instr.sureAddr, Sem.run_pure, Result.andThen_ok] at hr
   simp only [resRun, Sem.run_bind, hv', asAddr, Sem.run_pure, Result.andThen_ok]
   generalize (loadVar t ⟨b, off, none⟩).run P w = res at hr
   cases res with
   | ok u w' =>
    simp at hr
    obtain ⟨rfl, rfl⟩ := hr
    rfl
   | halt _ _ => simp at hr
theorem resL_ok {env : Env} {st : St} (hok : st.Ok) {B : Base} {w : World} {β : List Nat} {tmps : List Value} (hi : Inv gl B w β (lst st)) (he : EnvRel β env tmps) : ∀ (rs : List ResultVar) (k : List V → R) (outs : List Dl),
  mapK (fun r k => resK P r env st k) rs k = some outs → ∃ xs vs, (rs.mapM (resRun tmps.toArray)).run P w = .ok vs w ∧ DenL β xs vs ∧ ∃ outs', k xs = some outs' ∧ ∀ d ∈ outs', d ∈ outs
 | [], k, outs, h => ⟨[], [], rfl, .nil, outs, h, fun _ h => h⟩
 | r :: rs, k, outs, h => by
  have h' : resK P r env st (fun y => mapK (fun r k => resK P r env st k) rs fun ys => k (y :: ys)) = some outs := h
  obtain ⟨x, v, h1, h2, o1, h3, h4⟩ := resK_ok hok h' hi he
  obtain ⟨xs, vs, g1, g2, o2, g3, g4⟩ := resL_ok hok hi he rs _ o1 h3
  refine ⟨x :: xs, v :: vs, ?_, .cons h2 g2, o2, g3, fun d hd => h4 d (g4 d hd)⟩
  simp only [List.mapM_cons, Sem.run_bind, h1, Result.andThen_ok, g1, Sem.run_pure]
theorem resAll_ok {fn : Func} {env : Env} {st : St} (hok : st.Ok) {B : Base} {w : World} {β : List Nat} {tmps : List Value} (hi : Inv gl B w β (lst st)) (he : EnvRel β env tmps) {k : V → R} {outs : List Dl} (h : resAll P fn.results.toList env st k = some outs) :
  ∃ x v, (results fn tmps.toArray).run P w = .ok v w ∧ Den β x v ∧ ∃ outs', k x = some outs' ∧ ∀ d ∈ outs', d ∈ outs := by
 obtain ⟨xs, vs, h1, h2, o1, h3, h4⟩ := resL_ok hok hi he fn.results.toList _ outs h
 have hr : (results fn tmps.toArray).run P w = .ok (if h : vs.toArray.size = 1 then vs.toArray[0] else .tuple vs.toArray) w := by
  unfold results
  rw [Array.mapM_eq_mapM_toList]
  simp only [Sem.run_bind, Sem.run_map]
  have hv' : (List.mapM (fun x => match x with | .tmp t => pure (tmps.toArray.getD t undef) | .cell a t => do loadVar t (← asAddr (tmps.toArray.getD a undef)) : ResultVar → Sem Value) fn.results.toList).run P w = .ok vs w := by
   rw [← h1]
   congr 1
  erw [hv']
  rfl
 have hl := h2.1
 match xs, vs, hl, h2, h3, hr with
 | [], [], _, h2, h3, hr => exact ⟨_, _, hr, h2.tup, o1, h3, h4⟩
 | [x], [v], _, h2, h3, hr => exact ⟨x, v, hr, h2.2 0 _ _ rfl rfl, o1, h3, h4⟩
 | x :: y :: xs, v :: u :: vs, _, h2, h3, hr =>
  rw [dif_neg (by simp)] at hr
  exact ⟨_, _, hr, h2.tup, o1, h3, h4⟩
theorem getE_env0 (t : Nat) : getE env0 t = .any := by
 unfold getE env0
 have h1 : ∀ i, E8.get (α := E8 (E8 V)) ⟨row1, row1, row1, row1, row1, row1, row1, row1⟩ i = row1 := fun i => by unfold E8.get; split <;> rfl
 have h2 : ∀ i, E8.get row1 i = row0 := fun i => by unfold E8.get row1; split <;> rfl
 have h3 : ∀ i, E8.get row0 i = V.any := fun i => by unfold E8.get row0; split <;> rfl
 rw [h1, h2, h3]
theorem putArgs_ok : ∀ (vs : List V) (i : Nat) (env : Env) (k : Env → R) (outs : List Dl), putArgs vs i env k = some outs →
  ∃ env', k env' = some outs ∧ ∀ t, t < 512 → getE env' t = if i ≤ t ∧ t < i + vs.length then (vs[t - i]?).getD .any else getE env t
 | [], i, env, k, outs, h => ⟨env, h, fun t ht => by rw [if_neg (by simp)]⟩
 | v :: vs, i, env, k, outs, h => by
  have h' : (putC i).v env v (fun env => putArgs vs (i + 1) env k) = some outs := h
  by_cases hi : i < 512
  ·rw [putC_eq hi] at h'
   obtain ⟨env', h1, h2⟩ := putArgs_ok vs (i + 1) _ k outs h'
   refine ⟨env', h1, fun t ht => ?_⟩
   rw [h2 t ht, getE_set _ _ hi ht]
   by_cases he : i = t
   ·subst he
    rw [if_neg (by omega), if_pos rfl, if_pos (by simp)]
    simp
   ·rw [if_neg he]
    by_cases hr : i + 1 ≤ t ∧ t < i + 1 + vs.length
    ·rw [if_pos hr, if_pos (by simp; omega)]
     rw [show t - i = (t - (i + 1)) + 1 by omega]
     rfl
    ·rw [if_neg hr, if_neg (by simp; omega)]
  ·rw [putC_fail hi] at h'; cases h'
def FunOk (P : Program) (gl : List (Nat × List V)) (f : FuncId) (args : List V) (os : List O) (outs : List Dl) : Prop :=
 (∀ as w, (callFunc f as).run P w = .ok (.enter f as) w) ∧
 ∀ B w β vals, Inv gl B w β os → Pre B.β β → DenL β args vals → Calls P f vals.toArray w fun e w' => ∃ v d γ x, e = .returned v ∧ d ∈ outs ∧ γ.length = d.new.length ∧ (∀ y ∈ d.old, y.1 < os.length) ∧ Inv gl B w' (β ++ γ) (merge os d) ∧ d.vs = [x] ∧ Den (β ++ γ) x v
theorem mkOs_ok (os : List O) : (⟨os.length, os.length, os.reverse, []⟩ : St).Ok := ⟨by simp, Nat.le_refl _, by intro i h; cases h⟩
theorem body_ok (hm : P.follows .mixedOrders = true) (hent : ∀ (f : FuncId) (fn : Func), P.funcs[f]? = some fn → fn.body.isNone = false → (fn.name == "runtime.NumGoroutine") = false) (hops : OpsOk P gl (CallOk P gl)) (hpure : PureOk P gl (CallOk P gl))
  {n : Nat} {f : FuncId} {call : Call} (hc : CallOk P gl call) {args : List V} {os : List O} {outs : List Dl} (h : bodyOf P gl n f call args os = some outs) : FunOk P gl f args os outs := by
 unfold bodyOf at h
 cases hcf : compF P gl f with
 | none => rw [hcf] at h; cases h
 | some fd =>
  rw [hcf] at h
  unfold compF at hcf
  cases hf : P.funcs[f]? with
  | none => rw [hf] at hcf; cases hcf
  | some fn =>
   rw [hf] at hcf
   simp only [] at hcf
   cases hb : fn.body with
   | none => rw [hb] at hcf; cases hcf
   | some c =>
    rw [hb] at hcf
    simp only [] at hcf
    cases hnt : Nat.blt 512 fn.ntmps with
    | true => rw [hnt] at hcf; cases hcf
    | false =>
     rw [hnt] at hcf
     simp only [] at hcf
     cases hokc : okC fn.ntmps c with
     | false => rw [hokc] at hcf; cases hcf
     | true =>
      rw [hokc] at hcf
      simp only [] at hcf
      cases hcc : compCode P gl c with
      | mk s =>
      rw [hcc] at hcf
      simp only [Option.some.injEq] at hcf
      subst hcf
      have hN : fn.ntmps ≤ 512 := by have := blt_false.1 hnt; omega
      have hname := hent f fn hf (by rw [hb]; rfl)
      refine ⟨fun as w => ?_, fun B w β vals hi hBp hv => ?_⟩
      ·have hn' : ¬ (fn.name = "runtime.NumGoroutine") := by simpa using hname
       simp [callFunc, hf, hn', hb]
      ·simp only [fNat_eq] at h
       obtain ⟨env, h1, h2⟩ := putArgs_ok args 0 env0 _ outs h
       refine calls_of_wp hf hb ?_
       have hfr : vals.toArray ++ Array.replicate (fn.ntmps - vals.toArray.size) undef = (vals ++ List.replicate (fn.ntmps - vals.length) undef).toArray := by simp
       rw [hfr]
       have he : FrR fn.ntmps β env (vals ++ List.replicate (fn.ntmps - vals.length) undef) := by
        refine ⟨fun t ht => ?_, by simp; omega⟩
        rw [h2 t ht]
        by_cases hlt : t < args.length
        ·rw [if_pos (by omega), Nat.sub_zero, List.getElem?_eq_getElem hlt]
         have hlt2 : t < vals.length := by rw [← hv.1]; exact hlt
         have e : (vals ++ List.replicate (fn.ntmps - vals.length) undef).getD t undef = vals[t] := by
          simp [List.getD, List.getElem?_append_left hlt2, hlt2]
         rw [e]
         exact hv.2 t _ _ (List.getElem?_eq_getElem hlt) (List.getElem?_eq_getElem hlt2)
        ·rw [if_neg (by omega), getE_env0]; exact .any _
       have hl0 : lst (⟨os.length, os.length, os.reverse, []⟩ : St) = os := by simp [lst]
       have hw := code_ok (N := fn.ntmps) hm hops hpure hN c s hokc hcc call hc n env ⟨os.length, os.length, os.reverse, []⟩ _ outs (mkOs_ok os) h1 B w β _ (by rw [hl0]; exact hi) hBp he
       refine Code.wp_mono ?_ hw
       rintro e a w' ⟨x, hx, env', st', β', tmps', rfl, g1, g2, g3, g4, outs', g5, g6⟩
       -- the results, and what has been done
       have fin : resAll P fn.results.toList env' st' (fun r => deltaK st' [r] fun d => some [d]) = some outs' →
         ∃ v, (results fn tmps'.toArray).run P w' = .ok v w' ∧ ∃ v' d γ x, (Ending.returned v) = .returned v' ∧ d ∈ outs ∧ γ.length = d.new.length ∧ (∀ y ∈ d.old, y.1 < os.length) ∧ Inv gl B w' (β ++ γ) (merge os d) ∧ d.vs = [x] ∧ Den (β ++ γ) x v' := by
        intro hr
        obtain ⟨x, v, k1, k2, o1, k3, k4⟩ := resAll_ok g4.ok g1 g2.env hr
        obtain ⟨d, γ, d1, d2, d3, d4, d5⟩ := delta_ok (os := os) (β := β) (vals := [v]) g4.ok g4.n0 (fun p hp hn => by
         have := g4.same p hp hn; rw [hl0] at this; exact this) (fun p b o q1 q2 => ⟨w, hi.obj p b o q1 q2⟩) hi.len g3 hBp g1 (DenL.cons k2 .nil) k3
        cases d1
        have hdl : d.vs.length = 1 := d5.1
        match hvs : d.vs, hdl with
        | [y], _ =>
         rw [hvs] at d5
         exact ⟨v, k1, v, d, γ, y, rfl, g6 d (k4 d (by simp)), d2, d3, d4, hvs, d5.2 0 _ _ rfl rfl⟩
       cases e <;> first | (cases hx; done) | skip
       all_goals cases hx
       ·exact ⟨rfl, fin g5⟩
       ·cases g5
       ·exact ⟨rfl, fin g5⟩
end
end
end Go.Ev
namespace Go.Ev
open Go
noncomputable section
section
variable {P : Program} {gl : List (Nat × List V)}
theorem selOs_eq {st : St} (hok : st.Ok) (r : Nat → Nat) : ∀ (sel : List Nat) (k : List O → R) (outs : List Dl), mapK (fun i k => st.obj i fun o => iff (deepO o) (renK r o k) none) sel k = some outs →
  k (sel.map fun i => renO r (objAt st i)) = some outs ∧ ∀ i ∈ sel, deepO (objAt st i) = true
 | [], k, outs, h => ⟨h, fun i hi => by cases hi⟩
 | i :: sel, k, outs, h => by
  have h' : (st.obj i fun o => iff (deepO o) (renK r o fun y => mapK (fun i k => st.obj i fun o => iff (deepO o) (renK r o k) none) sel fun ys => k (y :: ys)) none) = some outs := h
  rw [obj_eq hok] at h'
  obtain ⟨h1, h2⟩ := iff_some h'
  rw [renK_eq] at h2
  obtain ⟨h3, h4⟩ := selOs_eq hok r sel _ outs h2
  refine ⟨h3, fun j hj => ?_⟩
  rcases List.mem_cons.1 hj with rfl | hj
  ·exact h1
  ·exact h4 j hj
theorem back_ok {st : St} (hok : st.Ok) {B : Base} {w w' : World} {β γ : List Nat} {sel : List Nat} (hi : Inv gl B w β (lst st)) (hBp : Pre B.β β) (hnd : sel.Nodup) (hin : ∀ i ∈ sel, i < st.n) {os : List O} (hos : os = sel.map fun i => renO (fun i => posIn i sel) (objAt st i))
  (hdeep : ∀ i ∈ sel, deepO (objAt st i) = true) (hcl : ∀ i ∈ sel, ∀ j ∈ refsO (objAt st i), j ∈ sel) {βc : List Nat} (hβc : βc = sel.map fun i => β.getD i 0) {d : Dl} (hγ : γ.length = d.new.length) (hdo : ∀ y ∈ d.old, y.1 < os.length) {B' : Base}
  (hBw : B'.w = w) (hBA : ∀ b, B'.A b ↔ ∃ i ∈ sel, β[i]? = some b ∧ liveAt (lst st) i)
  (hi' : Inv gl B' w' (βc ++ γ) (merge os d)) {vs : List V} {vals : List Value} (hd : DenL (βc ++ γ) vs vals) :
  DenL (β ++ γ) (vs.map (renV (outTo sel.length st.n sel))) vals ∧
  Inv gl B w' (β ++ γ) (merge (lst st) ⟨[], d.new.map (renO (outTo sel.length st.n sel)), d.old.map fun x => (outTo sel.length st.n sel x.1, renO (outTo sel.length st.n sel) x.2)⟩) ∧
  ∀ x ∈ d.old, outTo sel.length st.n sel x.1 < st.n := by
 generalize hr : outTo sel.length st.n sel = r
 have hn := lst_len hok
 have hβn : β.length = st.n := by rw [hi.len, hn]
 have hosl : os.length = sel.length := by rw [hos]; simp
 have hcl' : βc.length = sel.length := by rw [hβc]; simp
 have r1 : ∀ j, j < sel.length → sel[j]? = some (r j) := fun j hj => by
  rw [← hr]
  unfold outTo
  rw [blt_iff.2 hj, List.getElem?_eq_getElem hj]; rfl
 have r2 : ∀ j, r (sel.length + j) = st.n + j := fun j => by
  rw [← hr]
  unfold outTo
  rw [blt_false.2 (by omega)]
  simp only []; omega
 have rsel : ∀ j, j < sel.length → r j ∈ sel ∧ r j < st.n := fun j hj => by
  have := List.mem_of_getElem? (r1 j hj); exact ⟨this, hin _ this⟩
 have bc1 : ∀ j, j < sel.length → (βc ++ γ)[j]? = β[r j]? := fun j hj => by
  rw [List.getElem?_append_left (by omega), hβc, List.getElem?_map, r1 j hj]
  have hlt : r j < β.length := by rw [hβn]; exact (rsel j hj).2
  simp [List.getD, hlt]
 have bc2 : ∀ j, (βc ++ γ)[sel.length + j]? = γ[j]? := fun j => by
  rw [List.getElem?_append_right (by omega)]; congr 1; omega
 have b2 : ∀ j, (β ++ γ)[st.n + j]? = γ[j]? := fun j => by
  rw [List.getElem?_append_right (by omega)]; congr 1; omega
 have b1 : ∀ i, i < st.n → (β ++ γ)[i]? = β[i]? := fun i hi => by rw [List.getElem?_append_left (by omega)]
 have ren : RenOk (fun _ => True) r (βc ++ γ) (β ++ γ) := by
  intro j b _ hb
  by_cases hj : j < sel.length
  ·rw [bc1 j hj] at hb
   rw [b1 _ (rsel j hj).2]; exact hb
  ·obtain ⟨m, rfl⟩ : ∃ m, j = sel.length + m := ⟨j - sel.length, by omega⟩
   rw [bc2] at hb
   rw [r2, b2]; exact hb
 have pos : ∀ i ∈ sel, posIn i sel < sel.length ∧ r (posIn i sel) = i := fun i hi => by
  have h := posIn_spec hi
  have hlt : posIn i sel < sel.length := (List.getElem?_eq_some_iff.1 h).1
  refine ⟨hlt, ?_⟩
  have := r1 _ hlt
  rw [h] at this; exact (Option.some.inj this).symm
 have rinj : ∀ j k, r j = r k → j = k := by
  intro j k h
  by_cases hj : j < sel.length <;> by_cases hk : k < sel.length
  ·have e := r1 j hj
   rw [h] at e
   exact (List.getElem?_inj hj hnd).1 (e.trans (r1 k hk).symm)
  ·obtain ⟨m, rfl⟩ : ∃ m, k = sel.length + m := ⟨k - sel.length, by omega⟩
   have := (rsel j hj).2; rw [h, r2] at this; omega
  ·obtain ⟨m, rfl⟩ : ∃ m, j = sel.length + m := ⟨j - sel.length, by omega⟩
   have := (rsel k hk).2; rw [← h, r2] at this; omega
  ·obtain ⟨m, rfl⟩ : ∃ m, j = sel.length + m := ⟨j - sel.length, by omega⟩
   obtain ⟨m', rfl⟩ : ∃ m', k = sel.length + m' := ⟨k - sel.length, by omega⟩
   rw [r2, r2] at h; omega
 have hold : ∀ x ∈ d.old, r x.1 < st.n := fun x hx => (rsel x.1 (by rw [← hosl]; exact hdo x hx)).2
 refine ⟨⟨by simp [hd.1], fun j c v hc hv => ?_⟩, ?_, hold⟩
 ·rw [List.getElem?_map] at hc
  cases hx : vs[j]? with
  | none => rw [hx] at hc; cases hc
  | some x => rw [hx] at hc; cases hc; exact (hd.2 j x v hx hv).renV ren fun _ _ => trivial
 -- the written objects, on both sides
 have setBoth : ∀ (l : List (Nat × O)) (A C : List O), (∀ x ∈ l, x.1 < sel.length) → A.length = sel.length → C.length = st.n →
   (∀ j o, j < sel.length → A[j]? = some o → C[r j]? = some (renO r o)) →
   (∀ j o, j < sel.length → (setL A l)[j]? = some o → (setL C (l.map fun x => (r x.1, renO r x.2)))[r j]? = some (renO r o)) ∧ (∀ i, i ∉ sel → (setL C (l.map fun x => (r x.1, renO r x.2)))[i]? = C[i]?) := by
  intro l
  induction l with
  | nil => intro A C _ _ _ h; exact ⟨h, fun i _ => rfl⟩
  | cons x l ih =>
   intro A C hl hA hC h
   have hx := hl x (by simp)
   obtain ⟨g1, g2⟩ := ih (A.set x.1 x.2) (C.set (r x.1) (renO r x.2)) (fun y hy => hl y (by simp [hy])) (by simpa using hA) (by simpa using hC) (fun j o hj ho => by
    rw [List.getElem?_set] at ho ⊢
    by_cases e : x.1 = j
    ·subst e
     rw [if_pos rfl, if_pos (by omega)] at ho
     cases ho
     rw [if_pos rfl, if_pos (by rw [hC]; exact (rsel _ hj).2)]
    ·rw [if_neg e] at ho
     rw [if_neg (fun hh => e (rinj _ _ hh))]
     exact h j o hj ho)
   refine ⟨g1, fun i hi => ?_⟩
   have := g2 i hi
   rw [List.getElem?_set, if_neg (by intro hh; rw [← hh] at hi; exact hi (rsel _ hx).1)] at this
   exact this
 obtain ⟨s1, s2⟩ := setBoth d.old os (lst st) (fun x hx => by rw [← hosl]; exact hdo x hx) hosl hn (fun j o hj ho => by
  rw [hos, List.getElem?_map, r1 j hj] at ho
  cases ho
  have hlt : r j < (lst st).length := by rw [hn]; exact (rsel j hj).2
  have hback : renO r (renO (fun i => posIn i sel) (objAt st (r j))) = objAt st (r j) := renO_back (hdeep _ (rsel j hj).1) fun i hi => (pos i (hcl _ (rsel j hj).1 i hi)).2
  rw [hback]
  unfold objAt
  rw [List.getElem?_eq_getElem hlt]; rfl)
 have mC : ∀ j, (merge os d)[sel.length + j]? = d.new[j]? := fun j => by
  unfold merge
  rw [List.getElem?_append_right (by rw [setL_len]; omega), setL_len, hosl, Nat.add_sub_cancel_left]
 have mC1 : ∀ j, j < sel.length → (merge os d)[j]? = (setL os d.old)[j]? := fun j hj => by
  unfold merge
  rw [List.getElem?_append_left (by rw [setL_len]; omega)]
 have mB : ∀ j, (merge (lst st) ⟨[], d.new.map (renO r), d.old.map fun x => (r x.1, renO r x.2)⟩)[st.n + j]? = (d.new[j]?).map (renO r) := fun j => by
  unfold merge
  rw [List.getElem?_append_right (by rw [setL_len]; omega), setL_len, hn, Nat.add_sub_cancel_left, List.getElem?_map]
 have mB1 : ∀ i, i < st.n → (merge (lst st) ⟨[], d.new.map (renO r), d.old.map fun x => (r x.1, renO r x.2)⟩)[i]? = (setL (lst st) (d.old.map fun x => (r x.1, renO r x.2)))[i]? := fun i hi => by
  unfold merge
  rw [List.getElem?_append_left (by rw [setL_len]; omega)]
 have ml : (merge (lst st) ⟨[], d.new.map (renO r), d.old.map fun x => (r x.1, renO r x.2)⟩).length = st.n + d.new.length := by
  unfold merge
  rw [List.length_append, setL_len, hn]; simp
 generalize merge (lst st) ⟨[], d.new.map (renO r), d.old.map fun x => (r x.1, renO r x.2)⟩ = mg at *
 -- where each object stands: the callee's, or one that the callee has not seen
 have src : ∀ (i b : Nat) o, (β ++ γ)[i]? = some b → mg[i]? = some o →
   (∃ j o', i = r j ∧ (βc ++ γ)[j]? = some b ∧ (merge os d)[j]? = some o' ∧ o = renO r o') ∨ (i < st.n ∧ i ∉ sel ∧ β[i]? = some b ∧ (lst st)[i]? = some o) := by
  intro i b o hb ho
  by_cases hlt : i < st.n
  ·by_cases hm : i ∈ sel
   ·obtain ⟨p1, p2⟩ := pos i hm
    have hA : posIn i sel < (setL os d.old).length := by rw [setL_len]; omega
    have g := s1 (posIn i sel) _ p1 (List.getElem?_eq_getElem hA)
    rw [p2] at g
    rw [mB1 i hlt, g] at ho
    cases ho
    refine .inl ⟨posIn i sel, _, p2.symm, ?_, by rw [mC1 _ p1, List.getElem?_eq_getElem hA], rfl⟩
    rw [bc1 _ p1, p2, ← b1 i hlt]; exact hb
   ·rw [mB1 i hlt, s2 i hm] at ho
    exact .inr ⟨hlt, hm, by rw [← b1 i hlt]; exact hb, ho⟩
  ·obtain ⟨m, rfl⟩ : ∃ m, i = st.n + m := ⟨i - st.n, by omega⟩
   rw [mB] at ho
   rw [b2] at hb
   cases hx : d.new[m]? with
   | none => rw [hx] at ho; cases ho
   | some x =>
    rw [hx] at ho
    cases ho
    exact .inl ⟨sel.length + m, x, (r2 m).symm, by rw [bc2]; exact hb, by rw [mC]; exact hx, rfl⟩
 have lvl : ∀ {j : Nat} {o' : O}, (merge os d)[j]? = some o' → (renO r o').live = true → liveAt (merge os d) j := fun {j o'} h hl => ⟨o', h, by rwa [renO_live] at hl⟩
 -- a block that is one of an unseen object's is not the callee's
 have unseen : ∀ {i b : Nat}, i < st.n → i ∉ sel → β[i]? = some b → liveAt (lst st) i → ¬ B'.Own b := fun {i b} h1 h2 h3 h4 h5 => by
  rcases h5 with h5 | h5
  ·obtain ⟨i', m1, m2, m3⟩ := (hBA b).1 h5
   have := hi.inj i i' b h3 m2 h4 m3
   subst this; exact h2 m1
  ·obtain ⟨o, ho, hl⟩ := h4
   have := (hi.obj i b o h3 ho).lt hl
   rw [hBw] at h5; omega
 have owned : ∀ b, B'.Own b → B.Own b := fun b h => by
  rcases h with h | h
  ·obtain ⟨i', m1, m2, m3⟩ := (hBA b).1 h
   exact hi.own i' b m2 m3
  ·rw [hBw] at h; exact .inr (Nat.le_trans hi.size h)
 have size' : w.heap.size ≤ w'.heap.size := by have := hi'.size; rwa [hBw] at this
 refine ⟨by rw [ml]; simp; omega, ?_, ?_, ?_, Nat.le_trans hi.size size', ?_, ?_, ?_, ?_, hi.glob, hBp.trans (Pre.snoc _ _)⟩
 ·rintro i j b h1 h2 ⟨o1, l1, v1⟩ ⟨o2, l2, v2⟩
  rcases src i b o1 h1 l1 with ⟨x, o', e1, e2, e3, rfl⟩ | ⟨e1, e2, e3, e4⟩ <;> rcases src j b o2 h2 l2 with ⟨y, o'', f1, f2, f3, rfl⟩ | ⟨f1, f2, f3, f4⟩
  ·rw [e1, f1, hi'.inj x y b e2 f2 (lvl e3 v1) (lvl f3 v2)]
  ·exact (unseen f1 f2 f3 ⟨o2, f4, v2⟩ (hi'.own x b e2 (lvl e3 v1))).elim
  ·exact (unseen e1 e2 e3 ⟨o1, e4, v1⟩ (hi'.own y b f2 (lvl f3 v2))).elim
  ·exact hi.inj i j b e3 f3 ⟨o1, e4, v1⟩ ⟨o2, f4, v2⟩
 ·intro i b o h1 h2
  rcases src i b o h1 h2 with ⟨x, o', e1, e2, e3, rfl⟩ | ⟨e1, e2, e3, e4⟩
  ·exact (hi'.obj x b o' e2 e3).ren ren fun _ _ => trivial
  ·refine (hi.obj i b o e3 e4).mono (Pre.snoc _ _) fun hl => ?_
   have := hi'.keep b (unseen e1 e2 e3 ⟨o, e4, hl⟩)
   rw [this, hBw]
 ·rintro i b h1 ⟨o, l1, v1⟩
  rcases src i b o h1 l1 with ⟨x, o', e1, e2, e3, rfl⟩ | ⟨e1, e2, e3, e4⟩
  ·exact owned b (hi'.own x b e2 (lvl e3 v1))
  ·exact hi.own i b e3 ⟨o, e4, v1⟩
 ·intro b hb
  rw [hi'.keep b fun h => hb (owned b h), hBw]; exact hi.keep b hb
 ·rw [hi'.os, hBw]; exact hi.os
 ·rw [hi'.tape, hBw]; exact hi.tape
 ·rw [hi'.output, hBw]; exact hi.output
theorem entry_ok {st : St} (hok : st.Ok) {B : Base} {w : World} {β : List Nat} {sel : List Nat} (hi : Inv gl B w β (lst st)) (hnd : sel.Nodup) (hin : ∀ i ∈ sel, i < st.n) (hcl : ∀ i ∈ sel, ∀ j ∈ refsO (objAt st i), j ∈ sel) :
  RenOk (fun i => i ∈ sel) (fun i => posIn i sel) β (sel.map fun i => β.getD i 0) ∧
  Inv gl ⟨w, sel.map fun i => β.getD i 0, fun b => ∃ i ∈ sel, β[i]? = some b ∧ liveAt (lst st) i⟩ w (sel.map fun i => β.getD i 0) (sel.map fun i => renO (fun i => posIn i sel) (objAt st i)) := by
 have hn := lst_len hok
 have hβn : β.length = st.n := by rw [hi.len, hn]
 have ren : RenOk (fun i => i ∈ sel) (fun i => posIn i sel) β (sel.map fun i => β.getD i 0) := by
  intro i b hm hb
  simp only []
  rw [List.getElem?_map, posIn_spec hm]
  simp [List.getD, hb]
 refine ⟨ren, ?_⟩
 have src : ∀ (j b : Nat), (sel.map fun i => β.getD i 0)[j]? = some b → ∃ i, sel[j]? = some i ∧ i ∈ sel ∧ β[i]? = some b := fun j b h => by
  rw [List.getElem?_map] at h
  cases hj : sel[j]? with
  | none => rw [hj] at h; cases h
  | some i =>
   rw [hj] at h
   have hm := List.mem_of_getElem? hj
   have hlt : i < β.length := by rw [hβn]; exact hin i hm
   refine ⟨i, rfl, hm, ?_⟩
   rw [← Option.some.inj h]
   simp [List.getD, hlt]
 have obj : ∀ {i : Nat}, i ∈ sel → (lst st)[i]? = some (objAt st i) := fun {i} hm => by
  have hlt : i < (lst st).length := by rw [hn]; exact hin i hm
  unfold objAt
  rw [List.getElem?_eq_getElem hlt]; rfl
 have lv : ∀ {j i : Nat}, sel[j]? = some i → liveAt (sel.map fun i => renO (fun i => posIn i sel) (objAt st i)) j → liveAt (lst st) i := fun {j i} hj ⟨o, h1, h2⟩ => by
  rw [List.getElem?_map, hj] at h1
  cases h1
  exact ⟨_, obj (List.mem_of_getElem? hj), by rwa [renO_live] at h2⟩
 refine ⟨by simp, ?_, ?_, ?_, Nat.le_refl _, fun _ _ => rfl, rfl, rfl, rfl, ?_, .refl _⟩
 ·intro i j b h1 h2 l1 l2
  obtain ⟨i0, a1, a2, a3⟩ := src i b h1
  obtain ⟨j0, b1, b2, b3⟩ := src j b h2
  have e := hi.inj i0 j0 b a3 b3 (lv a1 l1) (lv b1 l2)
  subst e
  exact (List.getElem?_inj (List.getElem?_eq_some_iff.1 a1).1 hnd).1 (a1.trans b1.symm)
 ·intro j b o h1 h2
  obtain ⟨i, a1, a2, a3⟩ := src j b h1
  rw [List.getElem?_map, a1] at h2
  cases h2
  exact (hi.obj i b _ a3 (obj a2)).ren ren fun k hk => hcl i a2 k hk
 ·intro j b h1 l1
  obtain ⟨i, a1, a2, a3⟩ := src j b h1
  exact .inl ⟨i, a2, a3, lv a1 l1⟩
 ·intro g cs hg
  obtain ⟨h1, vs, T, fr, h2, h3⟩ := hi.glob g cs hg
  have hw : w.heap[g]? = some (.cells vs.toArray T fr) := by rw [hi.keep g h1]; exact h2
  refine ⟨fun hh => ?_, vs, T, fr, hw, h3⟩
  rcases hh with ⟨i, m1, m2, m3⟩ | hh
  ·exact h1 (hi.own i g m2 m3)
  ·have : g < w.heap.size := (Array.getElem?_eq_some_iff.1 hw).1
   simp only [] at hh; omega
theorem callS_ok {callee : FuncId → List V → List O → R} (hcal : ∀ f args os outs, callee f args os = some outs → FunOk P gl f args os outs) : CallOk P gl (callS callee) := by
 intro f args st K outs hok h
 unfold callS at h
 obtain ⟨rs, e1, r1, _⟩ := refsL_spec refsA args [] fun rs => reach st 0 100000 rs [] fun sel =>
  mapK (fun v k => renA (fun i => posIn i sel) v k) args fun args =>
  mapK (fun i k => st.obj i fun o => iff (deepO o) (renK (fun i => posIn i sel) o k) none) sel fun os =>
  match callee f args os with
  | some l => many (dedupe l) fun d => match d.vs with
   | [v] => renA (outTo sel.length st.n sel) v fun v =>
    mapK (fun o k => renK (outTo sel.length st.n sel) o k) d.new fun new =>
    mapK (fun x k => fNat (outTo sel.length st.n sel x.1) fun i => renK (outTo sel.length st.n sel) x.2 fun o => k (i, o)) d.old fun old =>
    applyK ⟨[v], new, old⟩ st fun s => K v s
   | _ => none
  | none => none
 replace h := e1.symm.trans h
 obtain ⟨sel, h, hnd, _, ht, hc⟩ := reach_spec hok _ _ _ _ _ List.nodup_nil h
 have hsel : ∀ i ∈ sel, i < st.n ∧ ∀ j ∈ refsO (objAt st i), j ∈ sel := fun i hi => by
  rcases hc i hi with h | ⟨_, h1, h2⟩
  ·cases h
  ·exact ⟨h1, fun j hj => (h2 j hj).resolve_left (Nat.not_lt_zero _)⟩
 rw [mapK_eq (renV fun i => posIn i sel) (fun x k => renA_eq _ x k)] at h
 obtain ⟨h, hdeep⟩ := selOs_eq hok _ sel _ outs h
 cases hcl : callee f (args.map (renV fun i => posIn i sel)) (sel.map fun i => renO (fun i => posIn i sel) (objAt st i)) with
 | none => rw [hcl] at h; cases h
 | some l =>
  rw [hcl] at h
  simp only [] at h
  obtain ⟨hen, hcall⟩ := hcal _ _ _ _ hcl
  refine ⟨hen, fun B w β vals hi hv => ?_⟩
  obtain ⟨ren, hinv⟩ := entry_ok hok hi hnd (fun i hm => (hsel i hm).1) (fun i hm => (hsel i hm).2)
  have hargs : DenL (sel.map fun i => β.getD i 0) (args.map (renV fun i => posIn i sel)) vals := by
   refine ⟨by simp [hv.1], fun j c v hc hv' => ?_⟩
   rw [List.getElem?_map] at hc
   cases hx : args[j]? with
   | none => rw [hx] at hc; cases hc
   | some x =>
    rw [hx] at hc
    cases hc
    exact (hv.2 j x v hx hv').renV ren fun i hi' => (ht i (r1 x (List.mem_of_getElem? hx) i hi')).resolve_left (Nat.not_lt_zero _)
  refine (hcall _ w _ vals hinv (.refl _) hargs).mono ?_
  rintro e w' ⟨v, d, γ, x, rfl, d1, d2, d3, d4, d5, d6⟩
  obtain ⟨o, m1, m2⟩ := many_spec h d (dedupe_mem d1)
  rw [d5] at m1
  simp only [] at m1
  rw [renA_eq, mapK_eq (renO (outTo sel.length st.n sel)) (fun o k => renK_eq _ o k), mapK_eq (fun x => (outTo sel.length st.n sel x.1, renO (outTo sel.length st.n sel) x.2)) (fun x k => by rw [fNat_eq, renK_eq])] at m1
  obtain ⟨b1, b2, b3⟩ := back_ok (vs := [x]) (vals := [v]) hok hi hi.pre hnd (fun i hm => (hsel i hm).1) rfl hdeep (fun i hm => (hsel i hm).2) rfl d2 d3 rfl (fun b => Iff.rfl) d4 (.cons d6 .nil)
  obtain ⟨s2, a1, a2, a3⟩ := applyK_spec (d := ⟨[renV (outTo sel.length st.n sel) x], d.new.map (renO (outTo sel.length st.n sel)), d.old.map fun x => (outTo sel.length st.n sel x.1, renO (outTo sel.length st.n sel) x.2)⟩) hok (fun y hy => by
   obtain ⟨z, hz, rfl⟩ := List.mem_map.1 hy
   exact b3 z hz) fun s => K (renV (outTo sel.length st.n sel) x) s
  rw [a1] at m1
  exact ⟨v, _, s2, β ++ γ, rfl, b1.2 0 _ _ rfl rfl, by rw [a2]; exact b2, Pre.snoc _ _, a3, o, m1, m2⟩
theorem callC_ok (hm : P.follows .mixedOrders = true) (hent : ∀ (f : FuncId) (fn : Func), P.funcs[f]? = some fn → fn.body.isNone = false → (fn.name == "runtime.NumGoroutine") = false) (hops : OpsOk P gl (CallOk P gl)) (hpure : PureOk P gl (CallOk P gl))
  {n : Nat} {rk : Nat → Nat} {ext : FuncId → List V → List O → Option R} (hext : ∀ f args os outs, ext f args os = some (some outs) → FunOk P gl f args os outs) :
  ∀ (d : Nat) f args os outs, callC P gl n rk ext d f args os = some outs → FunOk P gl f args os outs
 | 0, f, args, os, outs, h => by cases h
 | d + 1, f, args, os, outs, h => by
  have ih := callC_ok hm hent hops hpure (n := n) (rk := rk) hext d
  have h' : iff (Nat.blt (rk f) d) (callC P gl n rk ext d f args os) (match ext f args os with
   | some r => r
   | none => bodyOf P gl n f (callS (callC P gl n rk ext d)) args os) = some outs := h
  cases hb : Nat.blt (rk f) d with
  | true => rw [hb] at h'; exact ih f args os outs h'
  | false =>
   rw [hb] at h'
   have h2 : (match ext f args os with
    | some r => r
    | none => bodyOf P gl n f (callS (callC P gl n rk ext d)) args os) = some outs := h'
   cases he : ext f args os with
   | some r => rw [he] at h2; simp only [] at h2; subst h2; exact hext f args os outs he
   | none =>
    rw [he] at h2
    exact body_ok hm hent hops hpure (callS_ok ih) h2
end
end
end Go.Ev
namespace Go.Ev
open Go
noncomputable section
section
variable {P : Program} {gl : List (Nat × List V)} {CO : Call → Prop}
theorem tkOf_map_ {d : TypeDesc} {k e : Nat} (h : TK.map k e = tkOf P d) : ∃ a b, d = .map a b := by
 cases d <;> simp only [tkOf] at h <;> first | (cases h; done) | exact ⟨_, _, rfl⟩ | skip
 all_goals (split at h <;> cases h)
theorem tkOf_fn_ {d : TypeDesc} (h : TK.fn = tkOf P d) : ∃ i r v, d = .func i r v := by
 cases d <;> simp only [tkOf] at h <;> first | (cases h; done) | exact ⟨_, _, _, rfl⟩ | skip
 all_goals (split at h <;> cases h)
inductive OpR (P : Program) (gl : List (Nat × List V)) (CO : Call → Prop) (op : Op) (s : Sm) : Prop where
 | val : ValOk P gl CO op s → (∀ t x, op ≠ .load t x) → (∀ env, IndAt s env none) → OpR P gl CO op s
 | load (t : TypeId) (x : Operand) (ag : Bool) (sz : Nat) : op = .load t x → s = sLoad gl ag sz (opG x) → ValOk P gl CO op s → OpR P gl CO op s
 | sem : pureC op = false → SemOk P gl CO op s → OpR P gl CO op s
theorem OpR.sem' {op : Op} {s : Sm} (h : OpR P gl CO op s) : SemOk P gl CO op s := by
 cases h with
 | val h _ _ => exact h.sem
 | load _ _ _ _ _ _ h => exact h.sem
 | sem _ h => exact h
theorem OpR.pure' {op : Op} {s : Sm} (h : OpR P gl CO op s) (hp : pureC op = true) : ValOk P gl CO op s ∧ ((∀ t x, op ≠ .load t x) → ∀ env, IndAt s env none) ∧ (∀ t x, op = .load t x → ∀ env p, (∀ k : V → R, opG x env k = k p) → IndAt s env (posV p)) := by
 cases h with
 | val h1 h2 h3 => exact ⟨h1, fun _ => h3, fun t x h => absurd h (h2 t x)⟩
 | load t x ag sz h1 h2 h3 =>
  refine ⟨h3, fun h => absurd h1 (h t x), fun t' x' h' env p hp' call st st' k1 k2 k3 => ?_⟩
  rw [h1] at h'
  cases h'
  subst h2
  unfold sLoad
  rw [hp', hp']
  cases p <;> first | rfl | skip
  rename_i i o
  simp only []
  rw [obj_eq k1, obj_eq k2, k3 i rfl]
  rfl
 | sem h1 _ => rw [h1] at hp; cases hp
theorem opR_load {t : TypeId} {x : Operand} {s : Sm} (h : compOp P gl (.load t x) = some s) : OpR P gl CO (.load t x) s := by
 simp only [compOp] at h
 split at h
 ·rename_i ti ht
  split at h
  ·rename_i hk
   simp only [fNat_eq, fBool_eq, withO_eq] at h
   cases h
   exact .load t x _ _ rfl rfl (ok_load ht hk)
  ·cases h
 ·cases h
theorem opR_fieldAddr {t : TypeId} {x : Operand} {f : Nat} {s : Sm} (h : compOp P gl (.fieldAddr t x f) = some s) : OpR P gl CO (.fieldAddr t x f) s := by
 simp only [compOp] at h
 split at h
 ·rename_i l ht
  split at h
  ·rename_i q hf
   split at h
   ·cases h
   ·rename_i h0
    simp only [fNat_eq, withO_eq] at h
    cases h
    exact .val (ok_fAddr ht hf h0) (by intro _ _ h; cases h) fun _ _ _ _ _ _ _ => rfl
  ·cases h
 ·cases h
theorem opR_field {t : TypeId} {x : Operand} {f : Nat} {s : Sm} (h : compOp P gl (.field t x f) = some s) : OpR P gl CO (.field t x f) s := by
 simp only [compOp] at h
 split at h
 ·rename_i l ht
  split at h
  ·rename_i q hf
   simp only [fNat_eq, fBool_eq, withO_eq] at h
   cases h
   exact .val (ok_field ht hf) (by intro _ _ h; cases h) fun _ _ _ _ _ _ _ => rfl
  ·cases h
 ·cases h
theorem opR_store {t : TypeId} {a x : Operand} {s : Sm} (h : compOp P gl (.store t a x) = some s) : OpR P gl CO (.store t a x) s := by
 simp only [compOp] at h
 split at h
 ·rename_i ti ht
  simp only [fNat_eq, withO_eq] at h
  cases h
  exact .sem rfl (ok_store ht)
 ·cases h
theorem opR_alloc {t : TypeId} {s : Sm} (h : compOp P gl (.alloc t) = some s) : OpR P gl CO (.alloc t) s := by
 simp only [compOp] at h
 split at h
 ·rename_i z hz
  split at h
  ·rename_i h1
   rw [mapV1_eq] at h
   cases h
   exact .sem rfl (ok_alloc hz h1)
  ·cases h
 ·cases h
theorem opR_iface {t : TypeId} {x : Operand} {s : Sm} (h : compOp P gl (.makeInterface t x) = some s) : OpR P gl CO (.makeInterface t x) s := by
 simp only [compOp] at h
 split at h
 ·rename_i ti ht
  split at h
  ·rename_i hk
   simp only [fNat_eq, withO_eq] at h
   cases h
   exact .val (ok_iface ht hk) (by intro _ _ h; cases h) fun _ _ _ _ _ _ _ => rfl
  ·cases h
 ·cases h
theorem opR_mkfn {f : Fn} {first caps : Array Operand} {s : Sm} (h : compOp P gl (.makeFunc f first caps) = some s) : OpR P gl CO (.makeFunc f first caps) s := by
 simp only [compOp] at h
 split at h
 ·simp only [fNat_eq, withL_eq] at h
  cases h
  exact .val ok_mkfn (by intro _ _ h; cases h) fun _ _ _ _ _ _ _ => rfl
 ·cases h
theorem opR_unOp {op : UnOp} {T : TypeId} {x : Operand} {s : Sm} (h : compOp P gl (.unOp op T x) = some s) : OpR P gl CO (.unOp op T x) s := by
 simp only [compOp] at h
 split at h
 ·simp only [withO_eq] at h
  cases h
  exact .val ok_not (by intro _ _ h; cases h) fun _ _ _ _ _ _ _ => rfl
 ·simp only [withO_eq] at h
  cases h
  exact .val ok_neg (by intro _ _ h; cases h) fun _ _ _ _ _ _ _ => rfl
 ·simp only [withO_eq] at h
  cases h
  exact .val ok_xor (by intro _ _ h; cases h) fun _ _ _ _ _ _ _ => rfl
 ·cases h
theorem opR_conv {a b : TypeId} {x : Operand} {s : Sm} (h : compOp P gl (.convert a b x) = some s) : OpR P gl CO (.convert a b x) s := by
 simp only [compOp] at h
 split at h
 ·rename_i k0 h1
  split at h
  ·rename_i k h2
   simp only [fKind_eq, kindF_eq, withO_eq] at h
   cases h
   exact .val (ok_conv h1 h2) (by intro _ _ h; cases h) fun _ _ _ _ _ _ _ => rfl
  ·cases h
 ·cases h
theorem opR_indexAddr {t : TypeId} {x i : Operand} {s : Sm} (h : compOp P gl (.indexAddr t x i) = some s) : OpR P gl CO (.indexAddr t x i) s := by
 simp only [compOp] at h
 split at h
 ·rename_i ht
  simp only [fNat_eq, withO_eq] at h
  cases h
  exact .val (ok_idxAddrA ht) (by intro _ _ h; cases h) fun _ _ _ _ _ _ _ => rfl
 ·rename_i ht
  simp only [fNat_eq, withO_eq] at h
  cases h
  exact .val (ok_idxAddrS ht) (by intro _ _ h; cases h) fun _ _ _ _ _ _ _ => rfl
 ·cases h
theorem opR_index {t : TypeId} {x i : Operand} {s : Sm} (h : compOp P gl (.index t x i) = some s) : OpR P gl CO (.index t x i) s := by
 simp only [compOp] at h
 split at h
 ·rename_i ht
  split at h
  ·rename_i hte
   split at h
   ·rename_i hk
    simp only [fNat_eq, fBool_eq, withO_eq] at h
    cases h
    exact .val (ok_idxA ht hte hk) (by intro _ _ h; cases h) fun _ _ _ _ _ _ _ => rfl
   ·cases h
  ·cases h
 ·rename_i ht
  simp only [withO_eq] at h
  cases h
  exact .val (ok_idxS ht) (by intro _ _ h; cases h) fun _ _ _ _ _ _ _ => rfl
 ·cases h
theorem opR_slice {t : TypeId} {x : Operand} {lo hi mx : Option Operand} {s : Sm} (h : compOp P gl (.slice t x lo hi mx) = some s) : OpR P gl CO (.slice t x lo hi mx) s := by
 simp only [compOp] at h
 split at h
 ·rename_i ht
  simp only [fNat_eq, withO_eq, withOpt_eq] at h
  cases h
  exact .val (ok_sliceS ht) (by intro _ _ h; cases h) fun _ _ _ _ _ _ _ => rfl
 ·rename_i ht
  split at h
  ·simp only [fNat_eq, withO_eq, withOpt_eq] at h
   cases h
   exact .val (ok_sliceA ht) (by intro _ _ h; cases h) fun _ _ _ _ _ _ _ => rfl
  ·cases h
 ·cases h
theorem opR_makeSlice {t : TypeId} {l c : Operand} {s : Sm} (h : compOp P gl (.makeSlice t l c) = some s) : OpR P gl CO (.makeSlice t l c) s := by
 simp only [compOp] at h
 split at h
 ·rename_i e k b ht
  split at h
  ·rename_i hk
   simp only [fNat_eq] at h
   rcases zeroE_eq (P := P) (e := e) (k := k) (fun z => match z with
    | some z => withO l fun l => withO c fun c => some (sMkSlice k b z l c)
    | none => none) with ⟨z, h1, h2, h3, h4⟩ | h4
   ·replace h := h4.symm.trans h
    simp only [withO_eq] at h
    cases h
    exact .sem rfl (ok_mkslice ht h1 h2 h3 (blt_iff.1 hk))
   ·replace h := h4.symm.trans h
    cases h
  ·cases h
 ·cases h
theorem opR_eqFl {op : BinOp} {T T' : TypeId} {x y : Operand} {s : Sm} (hag : ∃ tk, tkT P T = some tk ∧ tk.agg = true) (h : compFl P op T x y = some s) : OpR P gl CO (.binOp op T x y T') s := by
 unfold compFl at h
 split at h
 ·rename_i b hb
  split at h
  ·cases h
  ·rename_i hg
   split at h
   ·rename_i e he
    simp only [withO_eq] at h
    cases h
    exact .val (ok_eqE hb hg he hag) (by intro _ _ h; cases h) fun _ _ _ _ _ _ _ => rfl
   ·cases h
 ·cases h
theorem opR_eqNil {nk : NK} {op : BinOp} {T T' : TypeId} {x y : Operand} {s : Sm} {d : TypeDesc} (hd : NilT nk d) (hu : P.underlying T = some d) (h : compNil nk op x y = some s) : OpR P gl CO (.binOp op T x y T') s := by
 unfold compNil at h
 split at h
 ·rename_i b hb
  simp only [withO_eq] at h
  cases h
  exact .val (ok_eqNil hb hd hu) (by intro _ _ h; cases h) fun _ _ _ _ _ _ _ => rfl
 ·cases h
theorem opR_binOp {op : BinOp} {T T' : TypeId} {x y : Operand} {s : Sm} (h : compOp P gl (.binOp op T x y T') = some s) : OpR P gl CO (.binOp op T x y T') s := by
 have h : compBin P op T x y = some s := h
 unfold compBin at h
 split at h
 ·rename_i k ht
  split at h
  ·rename_i f hf
   simp only [fKind_eq, kindF_eq, withO_eq] at h
   cases h
   exact .val (ok_binI hf) (by intro _ _ h; cases h) fun _ _ _ _ _ _ _ => rfl
  ·split at h
   ·rename_i f hf
    simp only [withO_eq] at h
    cases h
    exact .val (ok_shI hf) (by intro _ _ h; cases h) fun _ _ _ _ _ _ _ => rfl
   ·cases h
 ·simp only [withO_eq] at h
  cases h
  exact .val ok_binS (by intro _ _ h; cases h) fun _ _ _ _ _ _ _ => rfl
 ·rename_i ht
  simp only [withO_eq] at h
  cases h
  exact .val (ok_binB ht) (by intro _ _ h; cases h) fun _ _ _ _ _ _ _ => rfl
 ·rename_i ht; exact opR_eqFl ⟨_, ht, rfl⟩ h
 ·rename_i ht; exact opR_eqFl ⟨_, ht, rfl⟩ h
 ·rename_i e ht
  obtain ⟨i, d, _, hu, htk⟩ := tkT_spec ht
  obtain rfl := tkOf_ptr htk
  exact opR_eqNil (nk := .p) (d := _) (show NilT .p _ from ⟨_, rfl⟩) hu h
 ·rename_i e k b ht
  obtain ⟨i, d, _, hu, htk⟩ := tkT_spec ht
  obtain ⟨rfl, _⟩ := tkOf_sl htk
  exact opR_eqNil (nk := .s) (d := _) (show NilT .s _ from ⟨_, rfl⟩) hu h
 ·rename_i k e ht
  obtain ⟨i, d, _, hu, htk⟩ := tkT_spec ht
  obtain ⟨a, b, rfl⟩ := tkOf_map_ htk
  exact opR_eqNil (nk := .m) (d := _) (show NilT .m _ from ⟨_, _, rfl⟩) hu h
 ·rename_i ht
  obtain ⟨i, d, _, hu, htk⟩ := tkT_spec ht
  obtain ⟨a, b, c, rfl⟩ := tkOf_fn_ htk
  exact opR_eqNil (nk := .f) (d := _) (show NilT .f _ from ⟨_, _, _, rfl⟩) hu h
 ·cases h
theorem compBuild_inv {z : Option (List V)} {parts : Option (List (Nat × Nat × G))} {s : Sm} (h : compBuild z parts = some s) : ∃ zz ps, z = some zz ∧ parts = some ps ∧ allOne zz = true ∧ s = sBuild zz ps := by
 unfold compBuild at h
 split at h
 ·rename_i zz ps
  split at h
  ·rename_i h1
   rw [mapV1_eq] at h
   cases h
   exact ⟨_, _, rfl, rfl, h1, rfl⟩
  ·cases h
 ·cases h
theorem opR_build {t : TypeId} {parts : Array (Nat × Operand)} {s : Sm} (h : compOp P gl (.build t parts) = some s) : OpR P gl CO (.build t parts) s := by
 simp only [compOp] at h
 split at h
 ·rename_i ti ht
  split at h
  ·rename_i l htk
   rcases partsC_eq (place := fun i => (l[i]?).map fun x => (x.1, x.2.1)) parts.toList (fun ps => compBuild ti.zero ps) with ⟨ps, h1, h2⟩ | h2
   ·replace h := h2.symm.trans h
    obtain ⟨zz, ps', e1, e2, e3, rfl⟩ := compBuild_inv h
    cases e2
    exact .val (ok_buildS ht htk e1 e3 h1) (by intro _ _ h; cases h) fun _ _ _ _ _ _ _ => rfl
   ·replace h := h2.symm.trans h
    obtain ⟨zz, ps', e1, e2, e3, rfl⟩ := compBuild_inv h
    cases e2
  ·rename_i n e k htk
   rcases partsC_eq (place := fun i => some (i * k, k)) parts.toList (fun ps => compBuild ti.zero ps) with ⟨ps, h1, h2⟩ | h2
   ·replace h := h2.symm.trans h
    obtain ⟨zz, ps', e1, e2, e3, rfl⟩ := compBuild_inv h
    cases e2
    exact .val (ok_buildA ht htk e1 e3 h1) (by intro _ _ h; cases h) fun _ _ _ _ _ _ _ => rfl
   ·replace h := h2.symm.trans h
    obtain ⟨zz, ps', e1, e2, e3, rfl⟩ := compBuild_inv h
    cases e2
  ·cases h
 ·cases h
theorem opR_buildSlice {t : TypeId} {n : Nat} {parts : Array (Nat × Operand)} {s : Sm} (h : compOp P gl (.buildSlice t n parts) = some s) : OpR P gl CO (.buildSlice t n parts) s := by
 simp only [compOp] at h
 split at h
 ·rename_i e k b ht
  simp only [fNat_eq] at h
  rcases zeroE_eq (P := P) (e := e) (k := k) (fun z => match z with
   | some z => match Nat.ble (n * k) 16777216 && Nat.blt 0 k with
    | true => partsC (fun i => some (i * k, k)) parts.toList fun ps => match ps with
     | some ps => some (sBSlice k n z ps)
     | none => none
    | false => none
   | none => none) with ⟨z, h1, h2, h3, h4⟩ | h4
  ·replace h := h4.symm.trans h
   simp only [] at h
   split at h
   ·rename_i hc
    rw [Bool.and_eq_true] at hc
    rcases partsC_eq (place := fun i => some (i * k, k)) parts.toList (fun ps => match ps with
     | some ps => some (sBSlice k n z ps)
     | none => none) with ⟨ps, g1, g2⟩ | g2
    ·replace h := g2.symm.trans h
     cases h
     exact .sem rfl (ok_bslice ht h1 h2 h3 (Nat.le_of_ble_eq_true hc.1) (blt_iff.1 hc.2) g1)
    ·replace h := g2.symm.trans h
     cases h
   ·cases h
  ·replace h := h4.symm.trans h
   cases h
 ·cases h
end
end
end Go.Ev
