/-
 Contracts of functions, and calls.
 Operations with something to show: numbers, indexes, slices, strings.
-/
import Derived.Test.YtokclomhkggikaaGreatDoorJPwRun
namespace Go.Pw
open Go
def PRet (Gl : Glob) (B : Base) (Q : PV → List PObj → Prop) (e : Ending) (w' : World) : Prop :=
 ∃ r v st' A' β', e = .returned v ∧ Q r st' ∧ Den A' w' β' r v ∧ Inv Gl B A' w' β' st'
def ArgRel (A : Nat → Prop) (w : World) (β : List Nat) (args : List PV) (vals : List Value) : Prop := EnvRel A w β args vals
def PCalls (P : Program) (Gl : Glob) (f : FuncId) (args : List PV) (st : List PObj) (Q : PV → List PObj → Prop) : Prop :=
 ∀ A w β vals, Inv Gl (base0 A w β st) A w β st → ArgRel A w β args vals → Calls P f vals.toArray w (PRet Gl (base0 A w β st) Q)
theorem PCalls.mono {P : Program} {Gl : Glob} {f : FuncId} {args : List PV} {st : List PObj} {Q Q' : PV → List PObj → Prop} (h : PCalls P Gl f args st Q) (hq : ∀ r st', Q r st' → Q' r st') :
  PCalls P Gl f args st Q' := fun A w β vals hi ha => (h A w β vals hi ha).mono fun _ _ ⟨r, v, st', A', β', h1, h2, h3⟩ => ⟨r, v, st', A', β', h1, hq _ _ h2, h3⟩
def resOne (tys : List TI) (env : List PV) (st : List PObj) : ResultVar → Option PV
 | .tmp t => some ((env[t]?).getD .any)
 | .cell a t => match (env[a]?).getD .any with
  | .ptr _ _ => pureOp tys st env (.load t (.tmp a))
  | _ => none
def resAll (tys : List TI) (env : List PV) (st : List PObj) : List ResultVar → Option (List PV)
 | [] => some []
 | r :: rs => match resOne tys env st r with
  | some x => match resAll tys env st rs with
   | some xs => some (x :: xs)
   | none => none
  | none => none
def resP (tys : List TI) (env : List PV) (st : List PObj) (rs : List ResultVar) : Option PV :=
 match resAll tys env st rs with
 | some [x] => some x
 | some xs => some (.tup xs)
 | none => none
def PV.refs (d : Nat → Bool) : Nat → PV → Bool
 | 0, _ => false
 | n + 1, p => match p with
  | .ptr i _ => d i
  | .eptr _ i _ _ => d i
  | .msl _ i _ _ _ => d i
  | .map i => d i
  | .fn _ cs => cs.all (PV.refs d n)
  | .bfn _ cs => cs.all (PV.refs d n)
  | .iface _ v => PV.refs d n v
  | .agg cs => cs.all (PV.refs d n)
  | .tup cs => cs.all (PV.refs d n)
  | _ => true
def PV.ren (r : Nat → Nat) : Nat → PV → PV
 | 0, p => p
 | n + 1, p => match p with
  | .ptr i off => .ptr (r i) off
  | .eptr k i e off => .eptr k (r i) e off
  | .msl k i off len cap => .msl k (r i) off len cap
  | .map i => .map (r i)
  | .fn f cs => .fn f (cs.map (PV.ren r n))
  | .bfn f cs => .bfn f (cs.map (PV.ren r n))
  | .iface t v => .iface t (PV.ren r n v)
  | .agg cs => .agg (cs.map (PV.ren r n))
  | .tup cs => .tup (cs.map (PV.ren r n))
  | p => p
section
variable {P : Program} {Gl : Glob} {B : Base} {tys : List TI} {env : List PV} {st : List PObj} {A : Nat → Prop} {w : World} {β β' : List Nat}
theorem Den.ren {d : Nat → Bool} {r : Nat → Nat} (hr : ∀ (i b : Nat), d i = true → β[i]? = some b → β'[r i]? = some b) : ∀ (n : Nat) {p : PV} {v : Value}, Den A w β p v → p.refs d n = true → Den A w β' (p.ren r n) v := by
 intro n
 induction n with
 | zero => intro p v _ h; simp [PV.refs] at h
 | succ n ih =>
  intro p v hd h
  have lst : ∀ (cs : List PV) (vs : List Value), cs.length = vs.length → (∀ (j : Nat) c v, cs[j]? = some c → vs[j]? = some v → Den A w β c v) → cs.all (PV.refs d n) = true →
    (cs.map (PV.ren r n)).length = vs.length ∧ (∀ (j : Nat) c v, (cs.map (PV.ren r n))[j]? = some c → vs[j]? = some v → Den A w β' c v) := by
   intro cs vs hl hd ha
   refine ⟨by simp [hl], fun j c v hc hv => ?_⟩
   rw [List.getElem?_map] at hc
   cases hx : cs[j]? with
   | none => rw [hx] at hc; cases hc
   | some x => rw [hx] at hc; cases hc; exact ih (hd j x v hx hv) (List.all_eq_true.1 ha x (List.mem_of_getElem? hx))
  cases hd <;> simp only [PV.refs, PV.ren] at h ⊢
  case any => exact .any ..
  case bool => exact .bool ..
  case int => exact .int ..
  case str => exact .str ..
  case nilptr => exact .nilptr ..
  case ptr hb => exact .ptr _ _ _ _ (hr _ _ h hb)
  case eptr hb => exact .eptr _ _ _ _ _ _ (hr _ _ h hb)
  case gptr => exact .gptr ..
  case vptr f h1 h2 h3 => exact .vptr _ _ _ _ f h1 h2 h3
  case nilsl => exact .nilsl ..
  case slnil => exact .slnil ..
  case sl h1 h2 h3 h4 h5 h6 => exact .sl _ _ _ _ _ _ h1 h2 h3 h4 h5 h6
  case msl hb => exact .msl _ _ _ _ _ _ _ (hr _ _ h hb)
  case mslnil => exact .mslnil ..
  case nilmap => exact .nilmap ..
  case map hb => exact .map _ _ _ (hr _ _ h hb)
  case nilfn => exact .nilfn ..
  case fn vs h1 h2 => obtain ⟨g1, g2⟩ := lst _ _ h1 h2 h; exact .fn _ _ _ _ g1 g2
  case bfn vs h1 h2 => obtain ⟨g1, g2⟩ := lst _ _ h1 h2 h; exact .bfn _ _ _ _ g1 g2
  case niliface => exact .niliface ..
  case iface h1 => exact .iface _ _ _ _ (ih h1 h)
  case agg vs h1 h2 => obtain ⟨g1, g2⟩ := lst _ _ h1 h2 h; exact .agg _ _ _ g1 g2
  case tup vs h1 h2 => obtain ⟨g1, g2⟩ := lst _ _ h1 h2 h; exact .tup _ _ _ g1 g2
theorem PV.ren_id : ∀ (n : Nat) (p : PV), p.ren (fun i => i) n = p := by
 intro n
 induction n with
 | zero => intro p; rfl
 | succ n ih =>
  intro p
  have hm : ∀ cs : List PV, cs.map (PV.ren (fun i => i) n) = cs := fun cs => by
   rw [List.map_congr_left (fun p _ => ih p)]; simp
  cases p <;> simp [PV.ren, hm, ih]
theorem Den.refsBelow {n m : Nat} {p : PV} {v : Value} (h : Den A w β p v) (hp : p.refs (fun i => decide (i < n)) m = true) : Den A w (β.take n) p v := by
 have := h.ren (β' := β.take n) (d := fun i => decide (i < n)) (r := fun i => i) (fun i b hi hb => by
  simp only [decide_eq_true_eq] at hi
  rw [List.getElem?_take, if_pos hi]; exact hb) m hp
 rwa [PV.ren_id] at this
def PObj.refs (d : Nat → Bool) (n : Nat) : PObj → Bool
 | .box cs => cs.all (PV.refs d n)
 | .map es => es.all fun e => e.2.refs d n
 | .kmap es _ => es.all fun e => e.2.2.refs d n
 | .iter (some m) _ _ _ => d m
 | _ => true
def PObj.ren (r : Nat → Nat) (n : Nat) : PObj → PObj
 | .box cs => .box (cs.map (PV.ren r n))
 | .map es => .map (es.map fun e => (e.1, e.2.ren r n))
 | .kmap es c => .kmap (es.map fun e => (e.1, e.2.1, e.2.2.ren r n)) c
 | .iter m s l c => .iter (m.map r) s l c
 | o => o
theorem ObjRel.ren {d : Nat → Bool} {r : Nat → Nat} (hr : ∀ (i b : Nat), d i = true → β[i]? = some b → β'[r i]? = some b) {n : Nat} {b : Nat} {o : PObj} (h : ObjRel A β w b o) (ho : o.refs d n = true) :
  ObjRel A β' w b (o.ren r n) := by
 cases o with
 | dead => trivial
 | box cs =>
  obtain ⟨vs, T, fr, h1, h2, h3, h4⟩ := h
  refine ⟨vs, T, fr, h1, by simp [h2], by simpa using h3, fun j c v hc hv => ?_⟩
  rw [List.getElem?_map] at hc
  cases hx : cs[j]? with
  | none => rw [hx] at hc; cases hc
  | some x => rw [hx] at hc; cases hc; exact (h4 j x v hx hv).ren hr n (List.all_eq_true.1 ho x (List.mem_of_getElem? hx))
 | arr k xs cap => exact h
 | map es =>
  obtain ⟨mes, cl, h1, h2, h3⟩ := h
  refine ⟨mes, cl, h1, by simp [h2], fun j k v hj => ?_⟩
  rw [List.getElem?_map] at hj
  cases hx : es[j]? with
  | none => rw [hx] at hj; cases hj
  | some x =>
   rw [hx] at hj
   cases hj
   obtain ⟨e, g1, g2, g3⟩ := h3 j x.1 x.2 hx
   exact ⟨e, g1, g2, g3.ren hr n (List.all_eq_true.1 ho x (List.mem_of_getElem? hx))⟩
 | kmap es cl =>
  obtain ⟨mes, h1, h2, h3⟩ := h
  refine ⟨mes, h1, by simp [h2], fun j bn k v hj => ?_⟩
  rw [List.getElem?_map] at hj
  cases hx : es[j]? with
  | none => rw [hx] at hj; cases hj
  | some x =>
   rw [hx] at hj
   cases hj
   obtain ⟨e, g1, g0, g2, g3⟩ := h3 j x.1 x.2.1 x.2.2 hx
   exact ⟨e, g1, g0, g2, g3.ren hr n (List.all_eq_true.1 ho x (List.mem_of_getElem? hx))⟩
 | iter m s l c =>
  cases m with
  | none => exact h
  | some m => obtain ⟨mb, h1, h2⟩ := h; exact ⟨mb, hr m mb ho h1, h2⟩
theorem PObj.ren_id (n : Nat) (o : PObj) : o.ren (fun i => i) n = o := by
 cases o with
 | box cs =>
  simp only [PObj.ren]
  rw [List.map_congr_left (g := fun p => p) (fun p _ => PV.ren_id n p)]; simp
 | map es =>
  simp only [PObj.ren, PV.ren_id]
  simp
 | kmap es c =>
  simp only [PObj.ren, PV.ren_id]
  simp
 | iter m s l c =>
  simp only [PObj.ren]
  simp
 | _ => rfl
theorem liveAt_take {n i : Nat} (h : liveAt (st.take n) i) : liveAt st i ∧ i < n := by
 obtain ⟨o, h1, h2⟩ := h
 rw [List.getElem?_take] at h1
 split at h1
 ·exact ⟨⟨o, h1, h2⟩, by assumption⟩
 ·cases h1
theorem Inv.take (hi : Inv Gl B A w β st) (n m : Nat) (hn : B.β.length ≤ n) (h : (st.take n).all (PObj.refs (fun i => decide (i < n)) m) = true) : Inv Gl B A w (β.take n) (st.take n) := by
 have hg : ∀ {i b : Nat}, (β.take n)[i]? = some b → β[i]? = some b := fun {i b} h => by
  rw [List.getElem?_take] at h
  split at h
  ·exact h
  ·cases h
 refine ⟨by simp [hi.len], ?_, ?_, ?_, ?_, hi.lt, hi.new, hi.old, hi.size, hi.os, hi.tape, hi.output, hi.keep, hi.glob, fun i b h1 h2 => ?_, hi.apart⟩
 ·intro i j b h1 h2 l1 l2; exact hi.inj i j b (hg h1) (hg h2) (liveAt_take l1).1 (liveAt_take l2).1
 ·intro i b o h1 h2
  have h2' := h2
  rw [List.getElem?_take] at h2'
  split at h2'
  ·have := (hi.obj i b o (hg h1) h2').ren (β' := β.take n) (d := fun i => decide (i < n)) (r := fun i => i) (n := m) (fun i b hi hb => by
    simp only [decide_eq_true_eq] at hi
    rw [List.getElem?_take, if_pos hi]; exact hb) (List.all_eq_true.1 h o (List.mem_of_getElem? h2))
   rwa [PObj.ren_id] at this
  ·cases h2'
 ·intro i b h1 l1; exact hi.notA i b (hg h1) (liveAt_take l1).1
 ·intro i b h1 l1; exact hi.own i b (hg h1) (liveAt_take l1).1
 ·have := (List.getElem?_eq_some_iff.1 h2).1
  rw [List.getElem?_take, if_pos (by omega)]; exact hi.pre i b h1 h2
theorem resAll_sound (hT : Tys P tys) {tmps : List Value} (hi : Inv Gl B A w β st) (he : EnvRel A w β env tmps) : ∀ {rs : List ResultVar} {xs : List PV}, resAll tys env st rs = some xs →
  ∃ vs : List Value, (rs.mapM (fun | .tmp t => pure (tmps.toArray.getD t undef) | .cell a t => do loadVar t (← asAddr (tmps.toArray.getD a undef)) : ResultVar → Sem Value)).run P w = .ok vs w ∧ EnvRel A w β xs vs
 | [], xs, h => by simp only [resAll] at h; cases h; exact ⟨[], by simp, rfl, by intro i p v hp; simp at hp⟩
 | r :: rs, xs, h => by
  simp only [resAll] at h
  split at h
  ·rename_i x hx
   split at h
   ·rename_i ys hys
    cases h
    obtain ⟨vs, hv1, hv2, hv3⟩ := resAll_sound hT hi he hys
    have cons : ∀ v, Den A w β x v → EnvRel A w β (x :: ys) (v :: vs) := fun v hd => ⟨by simp [hv2], fun i p u hp hu => by
     cases i with
     | zero => simp at hp hu; subst hp hu; exact hd
     | succ i => exact hv3 i p u (by simpa using hp) (by simpa using hu)⟩
    cases r with
    | tmp t =>
     simp only [resOne] at hx
     cases hx
     have := he.eval [] (.tmp t)
     refine ⟨_, ?_, cons _ this⟩
     simp only [List.mapM_cons, Sem.run_bind, Sem.run_pure, Result.andThen_ok, hv1]
     rfl
    | cell a t =>
     simp only [resOne] at hx
     split at hx
     ·rename_i i off hp
      obtain ⟨v, hr, hd⟩ := pureOp_sound (P := P) (o := ⟨none, .load t (.tmp a), 0, "", #[], none⟩) hT hx hi he
      have hda := he.eval [] (.tmp a)
      simp only [pe, hp] at hda
      obtain ⟨b, hb, hv⟩ := hda.ptr_inv
      have hv' : tmps.toArray.getD a undef = .pointer (some ⟨b, off, none⟩) := hv
      refine ⟨_, ?_, cons _ hd⟩
      simp only [execOp, Instr.loadAt, Sem.run_bind, hv, Instr.sureAddr, Sem.run_pure, Result.andThen_ok] at hr
      simp only [List.mapM_cons, Sem.run_bind, hv', asAddr, Sem.run_pure, Result.andThen_ok]
      generalize (loadVar t ⟨b, off, none⟩).run P w = res at hr
      cases res with
      | ok u w' =>
       simp at hr
       obtain ⟨rfl, rfl⟩ := hr
       simp only [Result.andThen_ok]
       erw [hv1]
       rfl
      | halt _ _ => simp at hr
     ·cases hx
   ·cases h
  ·cases h
theorem resP_sound (hT : Tys P tys) {fn : Func} {tmps : List Value} (hi : Inv Gl B A w β st) (he : EnvRel A w β env tmps) {x : PV} (h : resP tys env st fn.results.toList = some x) :
  ∃ v, (results fn tmps.toArray).run P w = .ok v w ∧ Den A w β x v := by
 unfold resP at h
 have key : ∀ xs, resAll tys env st fn.results.toList = some xs → ∃ vs : List Value, EnvRel A w β xs vs ∧ (results fn tmps.toArray).run P w = .ok (if h : vs.toArray.size = 1 then vs.toArray[0] else .tuple vs.toArray) w := by
  intro xs hxs
  obtain ⟨vs, hv, he'⟩ := resAll_sound (P := P) hT hi he hxs
  refine ⟨vs, he', ?_⟩
  unfold results
  rw [Array.mapM_eq_mapM_toList]
  simp only [Sem.run_bind, Sem.run_map]
  have hv' : (List.mapM (fun x => match x with | .tmp t => pure (tmps.toArray.getD t undef) | .cell a t => do loadVar t (← asAddr (tmps.toArray.getD a undef)) : ResultVar → Sem Value) fn.results.toList).run P w = .ok vs w := hv
  erw [hv']
  rfl
 split at h
 ·rename_i y hy
  cases h
  obtain ⟨vs, he', hr⟩ := key _ hy
  have hl : vs.length = 1 := by rw [← he'.1]; rfl
  match vs, hl with
  | [v], _ => exact ⟨v, hr, he'.2 0 _ v rfl rfl⟩
 ·rename_i xs hne hxs
  cases h
  obtain ⟨vs, he', hr⟩ := key _ hxs
  have hl : vs.toArray.size ≠ 1 := fun h1 => by
   have : xs.length = 1 := by rw [he'.1]; simpa using h1
   match xs, this with
   | [y], _ => exact hne y rfl
  rw [dif_neg hl] at hr
  exact ⟨_, hr, .tup _ _ _ he'.1 he'.2⟩
 ·cases h
theorem PV.ren_none {r : Nat → Nat} : ∀ (n : Nat) (p : PV), p.refs (fun _ => false) n = true → p.ren r n = p := by
 intro n
 induction n with
 | zero => intro p h; rfl
 | succ n ih =>
  intro p h
  have lst : ∀ cs : List PV, cs.all (PV.refs (fun _ => false) n) = true → cs.map (PV.ren r n) = cs := fun cs hc => by
   rw [List.map_congr_left (g := fun x => x) (fun p hp => ih p (List.all_eq_true.1 hc p hp))]; simp
  cases p <;> simp only [PV.refs, PV.ren] at h ⊢ <;> first | (cases h; done) | (rw [lst _ h]) | (rw [ih _ h])
def Enters (P : Program) (f : FuncId) : Prop := ∀ args w, (callFunc f args).run P w = .ok (.enter f args) w
def idxIn (sel : List Nat) (i : Nat) : Nat := sel.idxOf i
def idxOut (sel : List Nat) (n j : Nat) : Nat := if j < sel.length then sel.getD j 0 else n + (j - sel.length)
def mergeAux (sel : List Nat) (st' : List PObj) : Nat → List PObj → List PObj
 | _, [] => []
 | i, x :: xs => (if sel.contains i then st'.getD (sel.idxOf i) .dead else x) :: mergeAux sel st' (i + 1) xs
def merge (sel : List Nat) (st st' : List PObj) : List PObj := mergeAux sel st' 0 st ++ st'.drop sel.length
theorem mergeAux_get (sel : List Nat) (st' : List PObj) : ∀ (st : List PObj) (k i : Nat), (mergeAux sel st' k st)[i]? = (st[i]?).map fun x => if sel.contains (k + i) then st'.getD (sel.idxOf (k + i)) .dead else x
 | [], k, i => by simp [mergeAux]
 | x :: st, k, 0 => by simp [mergeAux]
 | x :: st, k, i + 1 => by
  simp only [mergeAux, List.getElem?_cons_succ, mergeAux_get sel st' st (k + 1) i]
  rw [show k + 1 + i = k + (i + 1) by omega]
theorem mergeAux_len (sel : List Nat) (st' : List PObj) : ∀ (st : List PObj) (k : Nat), (mergeAux sel st' k st).length = st.length
 | [], _ => rfl
 | _ :: st, k => by simp [mergeAux, mergeAux_len sel st' st (k + 1)]
def selSt (sel : List Nat) (st : List PObj) : List PObj := sel.map fun i => (st.getD i .dead).ren (idxIn sel) 5
theorem op_call {o : Oper} {K : PV → List PObj → Prop} {fop : Operand} {args : Array Operand} {ats : Array TypeId} {f : FuncId} {caps : List PV} {Q : PV → List PObj → Prop} (sel : List Nat)
  (ho : o.op = .call ⟨.value fop, args, ats⟩) (hf : pe env fop = .fn f caps) (hent : Enters P f) (hnd : sel.Nodup) (hlive : sel.all (fun i => (st.getD i .dead).live && (st.getD i .dead).stays) = true)
  (hrefs : (args.toList.map (pe env) ++ caps).all (PV.refs sel.contains 5) = true) (hobjs : sel.all (fun i => (st.getD i .dead).refs sel.contains 5) = true)
  {cargs : List PV} {cst : List PObj} (hle : Le ((args.toList.map (pe env) ++ caps).map (PV.ren (idxIn sel) 5)) cargs) (hls : StLe (selSt sel st) cst) (hc : PCalls P Gl f cargs cst Q)
  (hK : ∀ r st', Q r st' → r.refs (fun _ => true) 5 = true ∧ st'.all (PObj.refs (fun _ => true) 5) = true ∧ K (r.ren (idxOut sel st.length) 5) (merge sel st (st'.map (PObj.ren (idxOut sel st.length) 5)))) :
  OpP P Gl B o env st K := fun A w β tmps Q' hi he => by
 have hlen := hi.len
 have hsl : ∀ i ∈ sel, liveAt st i := fun i h => by
  have := List.all_eq_true.1 hlive i h
  cases hx : st[i]? with
  | none => simp [List.getD, hx, PObj.live] at this
  | some x => simp [List.getD, hx] at this; exact ⟨x, hx, this.1⟩
 have hst : ∀ i ∈ sel, (st.getD i .dead).stays = true := fun i h => by
  have := List.all_eq_true.1 hlive i h
  simp only [Bool.and_eq_true] at this
  exact this.2
 have hsb : ∀ i ∈ sel, ∃ b, β[i]? = some b := fun i h => by
  obtain ⟨x, hx, _⟩ := hsl i h
  have : i < β.length := by rw [hlen]; exact (List.getElem?_eq_some_iff.1 hx).1
  exact ⟨_, List.getElem?_eq_getElem this⟩
 -- the callee's blocks
 let γ : List Nat := sel.map fun i => β.getD i 0
 have hγ : ∀ {j b : Nat}, γ[j]? = some b → ∃ i, sel[j]? = some i ∧ β[i]? = some b := by
  intro j b h
  simp only [γ, List.getElem?_map] at h
  cases hx : sel[j]? with
  | none => rw [hx] at h; cases h
  | some i =>
   rw [hx] at h
   cases h
   obtain ⟨b', hb'⟩ := hsb i (List.mem_of_getElem? hx)
   exact ⟨i, rfl, by simp [List.getD, hb']⟩
 have hin : ∀ (i b : Nat), sel.contains i = true → β[i]? = some b → γ[idxIn sel i]? = some b := by
  intro i b h hb
  have hm : i ∈ sel := by simpa using h
  have hlt := List.idxOf_lt_length_of_mem hm
  simp only [γ, idxIn, List.getElem?_map, List.getElem?_eq_getElem hlt, List.getElem_idxOf hlt, Option.map_some, List.getD, hb, Option.getD_some]
 have hcst : ∀ {j : Nat} {x : PObj}, (selSt sel st)[j]? = some x → ∃ i y, sel[j]? = some i ∧ st[i]? = some y ∧ x = y.ren (idxIn sel) 5 ∧ y.refs sel.contains 5 = true ∧ y.live = true := by
  intro j x h
  simp only [selSt, List.getElem?_map] at h
  cases hx : sel[j]? with
  | none => rw [hx] at h; cases h
  | some i =>
   rw [hx] at h
   cases h
   obtain ⟨y, hy, hl⟩ := hsl i (List.mem_of_getElem? hx)
   have hr := List.all_eq_true.1 hobjs i (List.mem_of_getElem? hx)
   simp only [List.getD, hy, Option.getD_some] at hr ⊢
   exact ⟨i, y, rfl, hy, rfl, hr, hl⟩
 have hrl : ∀ (y : PObj) (r : Nat → Nat) n, (y.ren r n).live = y.live := fun y r n => by cases y <;> rfl
 have hjj : ∀ {j k i : Nat}, sel[j]? = some i → sel[k]? = some i → j = k := fun {j k i} h1 h2 => by
  have a := (List.getElem?_eq_some_iff.1 h1)
  have b := (List.getElem?_eq_some_iff.1 h2)
  obtain ⟨l1, e1⟩ := a
  obtain ⟨l2, e2⟩ := b
  have hp := List.pairwise_iff_getElem.1 hnd
  rcases Nat.lt_trichotomy j k with h | h | h
  ·exact (hp j k l1 l2 h (e1.trans e2.symm)).elim
  ·exact h
  ·exact (hp k j l2 l1 h (e2.trans e1.symm)).elim
 have hic0 : Inv Gl (base0 A w γ (selSt sel st)) A w γ (selSt sel st) := by
  have hr := hi.rebase
  have hK0 : ∀ {b : Nat}, (base0 A w γ (selSt sel st)).K b → ∃ i, i ∈ sel ∧ β[i]? = some b := fun {b} ⟨j, hj, _⟩ => by
   obtain ⟨i1, s1, b1⟩ := hγ hj
   exact ⟨i1, List.mem_of_getElem? s1, b1⟩
  refine ⟨by simp [γ, selSt], ?_, ?_, ?_, ?_, hi.lt, fun b h => .inl h, fun b h => h, Nat.le_refl _, rfl, rfl, rfl, fun _ _ _ => rfl, ?_, fun i b _ h => h, fun b hb => ⟨fun hk => ?_, hi.lt b hb⟩⟩
  ·intro j k b h1 h2 l1 l2
   obtain ⟨i1, s1, b1⟩ := hγ h1
   obtain ⟨i2, s2, b2⟩ := hγ h2
   have := hi.inj i1 i2 b b1 b2 (hsl _ (List.mem_of_getElem? s1)) (hsl _ (List.mem_of_getElem? s2))
   subst this
   exact hjj s1 s2
  ·intro j b x h1 h2
   obtain ⟨i1, s1, b1⟩ := hγ h1
   obtain ⟨i2, y, s2, hy, rfl, hr, _⟩ := hcst h2
   rw [s1] at s2; cases s2
   exact (hi.obj i1 b y b1 hy).ren hin hr
  ·intro j b h1 l1
   obtain ⟨i1, s1, b1⟩ := hγ h1
   exact hi.notA i1 b b1 (hsl _ (List.mem_of_getElem? s1))
  ·intro j b h1 l1; exact .inl ⟨j, h1, l1⟩
  ·intro b hb
   obtain ⟨g1, g2, g3, g4⟩ := hr.glob b hb
   refine ⟨g1, fun hm => ?_, g3, g4⟩
   obtain ⟨i1, s1, b1⟩ := hK0 hm
   exact g2 ⟨i1, b1, hsl _ s1⟩
  ·obtain ⟨i1, s1, b1⟩ := hK0 hk
   exact hi.notA i1 b b1 (hsl _ s1) hb
 have hic := (hic0.weaken hls).rebase
 have hKsel : ∀ {b : Nat}, (base0 A w γ cst).K b → ∃ i, i ∈ sel ∧ β[i]? = some b := fun {b} ⟨j, hj, _⟩ => by
  obtain ⟨i1, s1, b1⟩ := hγ hj
  exact ⟨i1, List.mem_of_getElem? s1, b1⟩
 -- the arguments
 have hfv := he.eval [] fop
 rw [hf] at hfv
 obtain ⟨cvs, hcv, hcl, hcd⟩ := hfv.fn_inv
 have hargs : ArgRel A w γ ((args.toList.map (pe env) ++ caps).map (PV.ren (idxIn sel) 5)) (args.toList.map (⟨tmps.toArray, []⟩ : Act).eval ++ cvs) := by
  refine ⟨by simp [hcl], fun j p v hp hv => ?_⟩
  rw [List.getElem?_map] at hp
  cases hx : (args.toList.map (pe env) ++ caps)[j]? with
  | none => rw [hx] at hp; cases hp
  | some x =>
   rw [hx] at hp
   cases hp
   refine Den.ren hin 5 ?_ (List.all_eq_true.1 hrefs x (List.mem_of_getElem? hx))
   by_cases hj : j < args.toList.length
   ·rw [List.getElem?_append_left (by simpa using hj), List.getElem?_map] at hx hv
    cases hy : args.toList[j]? with
    | none => rw [hy] at hx; cases hx
    | some y => rw [hy] at hx hv; cases hx; cases hv; exact he.eval [] y
   ·rw [List.getElem?_append_right (by simpa using hj)] at hx hv
    simp only [List.length_map] at hx hv
    exact hcd _ x v hx hv
 have hcall := hc A w γ _ hic (hargs.weaken hle)
 unfold Oper.wp
 have hrun : (execOp (⟨tmps.toArray, []⟩ : Act).eval o).run P w = .ok (.enter f (args.toList.map (⟨tmps.toArray, []⟩ : Act).eval ++ cvs).toArray) w := by
  simp only [execOp, ho, Go.resolve, hcv, Deferred.ofValue, Sem.run_bind, Sem.run_pure, Result.andThen_ok, invoke]
  rw [hent]
  congr 2
  exact Array.ext' (by simp)
 rw [hrun]
 refine hcall.mono ?_
 rintro e w' ⟨r, v, st', A', β', rfl, hq, hd, hi'⟩
 have hE : Ext A w A' w' := hi'.ext0
 have hP : Pre γ β' := fun j b hj => by
  refine hi'.pre j b ?_ hj
  obtain ⟨i1, s1, b1⟩ := hγ hj
  have hs1 := hst i1 (List.mem_of_getElem? s1)
  have hjl : j < cst.length := by rw [← hls.len]; simp only [selSt, List.length_map]; exact (List.getElem?_eq_some_iff.1 s1).1
  have hcj : cst[j]? = some cst[j] := List.getElem?_eq_getElem hjl
  show ((cst[j]?).map PObj.stays).getD false = true
  rw [hcj]
  obtain ⟨q, hq, hr⟩ := hls.get j _ hcj
  simp only [selSt, List.getElem?_map, s1, Option.map_some] at hq
  cases hq
  have hs2 : ((st.getD i1 .dead).ren (idxIn sel) 5).stays = true := by
   rw [← hs1]
   cases st.getD i1 .dead <;> rfl
  rcases hr with hr | hr | ⟨cs, ds, h1, h2, _⟩
  ·rw [← hr]; exact hs2
  ·rw [hr]; rfl
  ·rw [h2]; rfl
 obtain ⟨hr1, hr2, hk⟩ := hK r st' hq
 have hlen' := hi'.len
 have hγl : γ.length = sel.length := by simp [γ]
 have hle : sel.length ≤ β'.length := by
  rcases Nat.lt_or_ge β'.length sel.length with h | h
  ·exfalso
   have hx : γ[β'.length]? = some γ[β'.length] := List.getElem?_eq_getElem (by omega)
   have := hP _ _ hx
   simp at this
  ·exact h
 -- the caller's blocks behind the call
 let δ : List Nat := β ++ β'.drop sel.length
 have hout : ∀ (j b : Nat), true = true → β'[j]? = some b → δ[idxOut sel st.length j]? = some b := by
  intro j b _ hb
  simp only [idxOut]
  split
  ·rename_i hj
   have hs : sel[j]? = some sel[j] := List.getElem?_eq_getElem hj
   obtain ⟨b', hb'⟩ := hsb sel[j] (List.getElem_mem hj)
   have hγj : γ[j]? = some b' := by simp only [γ, List.getElem?_map, hs, Option.map_some, List.getD, hb', Option.getD_some]
   have := hP j b' hγj
   rw [hb] at this
   cases this
   simp only [List.getD, hs, Option.getD_some]
   exact Pre.snoc _ _ _ _ hb'
  ·rename_i hj
   rw [List.getElem?_append_right (by omega), hlen, Nat.add_sub_cancel_left, List.getElem?_drop]
   rw [show sel.length + (j - sel.length) = j by omega]
   exact hb
 have hkeep : ∀ {i b : Nat}, β[i]? = some b → liveAt st i → i ∉ sel → w'.heap[b]? = w.heap[b]? := by
  intro i b hb hl hns
  refine hi'.keep b ((hi.obj i b _ hb hl.choose_spec.1).lt hl.choose_spec.2) (fun hm => ?_)
  obtain ⟨i1, s1, b1⟩ := hKsel hm
  have := hi.inj i i1 b hb b1 hl (hsl _ s1)
  subst this
  exact hns s1
 have hmget : ∀ {i : Nat} {x : PObj}, (merge sel st (st'.map (PObj.ren (idxOut sel st.length) 5)))[i]? = some x →
   (i < st.length ∧ i ∉ sel ∧ st[i]? = some x) ∨ (∃ j y, st'[j]? = some y ∧ x = y.ren (idxOut sel st.length) 5 ∧ i = idxOut sel st.length j ∧ (j < sel.length → sel[j]? = some i)) ∨ x = .dead := by
  intro i x h
  simp only [merge] at h
  by_cases hil : i < st.length
  ·rw [List.getElem?_append_left (by rw [mergeAux_len]; exact hil), mergeAux_get, List.getElem?_eq_getElem hil, Nat.zero_add] at h
   simp only [Option.map_some] at h
   split at h
   ·rename_i hcn
    have hm : i ∈ sel := by simpa using hcn
    have hlt := List.idxOf_lt_length_of_mem hm
    cases h
    cases hx : st'[sel.idxOf i]? with
    | none => right; right; simp [List.getD, hx]
    | some y =>
     right; left
     refine ⟨sel.idxOf i, y, hx, by simp [List.getD, hx], ?_, fun _ => by rw [List.getElem?_eq_getElem hlt, List.getElem_idxOf hlt]⟩
     simp only [idxOut, if_pos hlt, List.getD, List.getElem?_eq_getElem hlt, List.getElem_idxOf hlt, Option.getD_some]
   ·rename_i hcn
    cases h
    left
    exact ⟨hil, by simpa using hcn, List.getElem?_eq_getElem hil⟩
  ·rw [List.getElem?_append_right (by rw [mergeAux_len]; omega), mergeAux_len, List.getElem?_drop, List.getElem?_map] at h
   cases hx : st'[sel.length + (i - st.length)]? with
   | none => rw [hx] at h; cases h
   | some y =>
    rw [hx] at h
    cases h
    right; left
    refine ⟨_, y, hx, rfl, ?_, fun h => by omega⟩
    simp only [idxOut]
    rw [if_neg (by omega)]
    omega
 have hδget : ∀ {i b : Nat}, δ[i]? = some b → i < st.length → β[i]? = some b := fun {i b} h hl => by
  rw [List.getElem?_append_left (by omega)] at h; exact h
 have hAsub : ∀ b, A' b → A b ∨ (∃ i, i ∈ sel ∧ β[i]? = some b) ∨ w.heap.size ≤ b := fun b hb => (hi'.new b hb).imp_right (Or.imp_left hKsel)
 have hfin : Inv Gl B A' w' δ (merge sel st (st'.map (PObj.ren (idxOut sel st.length) 5))) := by
  have lv : ∀ {i b : Nat}, δ[i]? = some b → liveAt (merge sel st (st'.map (PObj.ren (idxOut sel st.length) 5))) i →
    (i ∉ sel ∧ β[i]? = some b ∧ liveAt st i ∧ b < w.heap.size) ∨ (∃ j y, st'[j]? = some y ∧ y.live = true ∧ i = idxOut sel st.length j ∧ β'[j]? = some b) := by
   intro i b hb ⟨x, hx, hl⟩
   rcases hmget hx with ⟨g1, g2, g3⟩ | ⟨j, y, g1, rfl, g3, g4⟩ | rfl
   ·left
    have hbb := hδget hb g1
    exact ⟨g2, hbb, ⟨x, g3, hl⟩, (hi.obj i b x hbb g3).lt hl⟩
   ·right
    have hjl : j < β'.length := by rw [hlen']; exact (List.getElem?_eq_some_iff.1 g1).1
    have hbj : β'[j]? = some β'[j] := List.getElem?_eq_getElem hjl
    have := hout j _ rfl hbj
    rw [← g3, hb] at this
    cases this
    exact ⟨j, y, g1, by rw [← hl, hrl], g3, hbj⟩
   ·cases hl
  have cross : ∀ {i j b : Nat}, i ∉ sel → β[i]? = some b → liveAt st i → β'[j]? = some b → liveAt st' j → False := by
   intro i j b hns hb hl hbj hlj
   have hlt := (hi.obj i b _ hb hl.choose_spec.1).lt hl.choose_spec.2
   rcases hi'.own j b hbj hlj with h | h
   ·obtain ⟨i1, s1, b1⟩ := hKsel h
    have := hi.inj i i1 b hb b1 hl (hsl _ s1)
    subst this
    exact hns s1
   ·exact Nat.lt_irrefl _ (Nat.lt_of_lt_of_le hlt h)
  refine ⟨?_, ?_, ?_, ?_, ?_, hi'.lt, ?_, fun b hb => hE.sub b (hi.old b hb), Nat.le_trans hi.size hi'.size, hi'.os.trans hi.os, hi'.tape.trans hi.tape, hi'.output.trans hi.output, ?_, hi.glob, fun i b h1 h2 => Pre.snoc _ _ _ _ (hi.pre i b h1 h2), hi.apart⟩
  ·simp only [δ, merge, List.length_append, List.length_drop, mergeAux_len, List.length_map]; omega
  ·intro i k b h1 h2 l1 l2
   rcases lv h1 l1 with ⟨n1, b1, v1, _⟩ | ⟨j1, y1, s1, v1, e1, b1⟩ <;> rcases lv h2 l2 with ⟨n2, b2, v2, _⟩ | ⟨j2, y2, s2, v2, e2, b2⟩
   ·exact hi.inj i k b b1 b2 v1 v2
   ·exact (cross n1 b1 v1 b2 ⟨y2, s2, v2⟩).elim
   ·exact (cross n2 b2 v2 b1 ⟨y1, s1, v1⟩).elim
   ·rw [e1, e2, hi'.inj j1 j2 b b1 b2 ⟨y1, s1, v1⟩ ⟨y2, s2, v2⟩]
  ·intro i b x h1 h2
   cases hxl : x.live with
   | false =>
    rcases hmget h2 with ⟨g1, g2, g3⟩ | ⟨j, y, g1, rfl, g3, g4⟩ | rfl
    ·exact (hi.obj i b x (hδget h1 g1) g3).still hxl
    ·have hjl : j < β'.length := by rw [hlen']; exact (List.getElem?_eq_some_iff.1 g1).1
     have hbj : β'[j]? = some β'[j] := List.getElem?_eq_getElem hjl
     have := hout j _ rfl hbj
     rw [← g3, h1] at this
     cases this
     exact (hi'.obj j _ y hbj g1).ren hout (List.all_eq_true.1 hr2 y (List.mem_of_getElem? g1))
    ·trivial
   | true =>
    rcases hmget h2 with ⟨g1, g2, g3⟩ | ⟨j, y, g1, rfl, g3, g4⟩ | rfl
    ·have hbb := hδget h1 g1
     exact (hi.obj i b x hbb g3).mono hE (Pre.snoc _ _) (hkeep hbb ⟨x, g3, hxl⟩ g2)
    ·have hjl : j < β'.length := by rw [hlen']; exact (List.getElem?_eq_some_iff.1 g1).1
     have hbj : β'[j]? = some β'[j] := List.getElem?_eq_getElem hjl
     have := hout j _ rfl hbj
     rw [← g3, h1] at this
     cases this
     exact (hi'.obj j _ y hbj g1).ren hout (List.all_eq_true.1 hr2 y (List.mem_of_getElem? g1))
    ·cases hxl
  ·intro i b h1 l1 hA
   rcases lv h1 l1 with ⟨n1, b1, v1, hlt⟩ | ⟨j1, y1, s1, v1, e1, b1⟩
   ·rcases hAsub b hA with h | h | h
    ·exact hi.notA i b b1 v1 h
    ·obtain ⟨i1, g1, b2⟩ := h
     have := hi.inj i i1 b b1 b2 v1 (hsl _ g1)
     subst this
     exact n1 g1
    ·omega
   ·exact hi'.notA j1 b b1 ⟨y1, s1, v1⟩ hA
  ·intro i b h1 l1
   rcases lv h1 l1 with ⟨n1, b1, v1, hlt⟩ | ⟨j1, y1, s1, v1, e1, b1⟩
   ·exact hi.own i b b1 v1
   ·rcases hi'.own j1 b b1 ⟨y1, s1, v1⟩ with h | h
    ·obtain ⟨i1, g1, b2⟩ := hKsel h
     exact hi.own i1 b b2 (hsl _ g1)
    ·right; exact Nat.le_trans hi.size h
  ·intro b hb
   rcases hAsub b hb with h | h | h
   ·exact hi.new b h
   ·obtain ⟨i1, g1, b2⟩ := h
    rcases hi.own i1 b b2 (hsl _ g1) with h | h
    ·exact .inr (.inl h)
    ·exact .inr (.inr h)
   ·exact .inr (.inr (Nat.le_trans hi.size h))
  ·intro b hb hk
   rw [hi'.keep b (Nat.lt_of_lt_of_le hb hi.size) (fun hm => ?_)]
   ·exact hi.keep b hb hk
   ·obtain ⟨i1, g1, b2⟩ := hKsel hm
    rcases hi.own i1 b b2 (hsl _ g1) with h | h
    ·exact hk h
    ·omega
 exact ⟨v, _, _, A', δ, rfl, hk, hd.ren hout 5 hr1, hfin, hE, Pre.snoc _ _⟩
end
end Go.Pw
namespace Go.Pw
open Go
section rules
variable {P : Program} {Gl : Glob} {B : Base} {tys : List TI} {env : List PV} {st : List PObj} {ops : Array Oper} {rest : List Oper} {o : Oper} {Q : Post}
theorem int_of {A : Nat → Prop} {w : World} {β : List Nat} {tmps : List Value} (he : EnvRel A w β env tmps) {x : Operand} {k : IntKind} {n : Int} (h : pe env x = .int k n) :
  (⟨tmps.toArray, []⟩ : Act).eval x = .int k n := by
 have := he.eval [] x
 rw [h] at this
 exact this.int_inv
theorem str_of {A : Nat → Prop} {w : World} {β : List Nat} {tmps : List Value} (he : EnvRel A w β env tmps) {x : Operand} {s : List UInt8} (h : pe env x = .str s) :
  (⟨tmps.toArray, []⟩ : Act).eval x = .string ⟨s.toArray⟩ := by
 have := he.eval [] x
 rw [h] at this
 exact this.str_inv
def arithI (op : BinOp) (a b : Int) : Option Int :=
 match op with
 | .add => some (a + b)
 | .sub => some (a - b)
 | .mul => some (a * b)
 | _ => none
theorem v_arith {op : BinOp} {t t' : TypeId} {x y : Operand} {k : IntKind} {a b r c : Int} (ho : o.op = .binOp op t x y t') (ha : pe env x = .int k a) (hb : pe env y = .int k b) (hr : arithI op a b = some r)
  (hc : k.wrap r = c) : OpV P Gl B o env (.int k c) := fun _ A w β tmps _ he => by
 refine ⟨.int k c, ?_, .int ..⟩
 subst hc
 simp only [execOp, ho, int_of he ha, int_of he hb, Sem.run_bind]
 unfold arithI at hr
 split at hr <;> cases hr <;> simp [eqGuard, binOp, Op.intArith]
theorem v_quo {t t' : TypeId} {x y : Operand} {k : IntKind} {a b c : Int} (ho : o.op = .binOp .quo t x y t') (ha : pe env x = .int k a) (hb : pe env y = .int k b) (h0 : b ≠ 0)
  (hc : k.wrap (a.tdiv b) = c) : OpV P Gl B o env (.int k c) := fun _ A w β tmps _ he => by
 refine ⟨.int k c, ?_, .int ..⟩
 subst hc
 simp [execOp, ho, int_of he ha, int_of he hb, eqGuard, binOp, Op.intDiv, h0]
theorem v_rem {t t' : TypeId} {x y : Operand} {k : IntKind} {a b c : Int} (ho : o.op = .binOp .rem t x y t') (ha : pe env x = .int k a) (hb : pe env y = .int k b) (h0 : b ≠ 0)
  (hc : a.tmod b = c) : OpV P Gl B o env (.int k c) := fun _ A w β tmps _ he => by
 refine ⟨.int k c, ?_, .int ..⟩
 subst hc
 simp [execOp, ho, int_of he ha, int_of he hb, eqGuard, binOp, Op.intDiv, h0]
theorem v_shl {t t' : TypeId} {x y : Operand} {k k' : IntKind} {a b c : Int} (ho : o.op = .binOp .shl t x y t') (ha : pe env x = .int k a) (hb : pe env y = .int k' b) (h0 : 0 ≤ b)
  (hc : k.wrap (a * 2 ^ (min b.toNat k.bits)) = c) : OpV P Gl B o env (.int k c) := fun _ A w β tmps _ he => by
 refine ⟨.int k c, ?_, .int ..⟩
 subst hc
 have : ¬ b < 0 := by omega
 simp [execOp, ho, int_of he ha, int_of he hb, eqGuard, binOp, Op.shift, this]
def bitsI (op : BinOp) (k : IntKind) (a b : Int) : Option Int :=
 match op with
 | .and => some (k.wrap (BitVec.ofInt k.bits a &&& BitVec.ofInt k.bits b).toNat)
 | .or => some (k.wrap (BitVec.ofInt k.bits a ||| BitVec.ofInt k.bits b).toNat)
 | .xor => some (k.wrap (BitVec.ofInt k.bits a ^^^ BitVec.ofInt k.bits b).toNat)
 | .andNot => some (k.wrap (BitVec.ofInt k.bits a &&& ~~~ BitVec.ofInt k.bits b).toNat)
 | _ => none
theorem v_bits {op : BinOp} {t t' : TypeId} {x y : Operand} {k : IntKind} {a b r c : Int} (ho : o.op = .binOp op t x y t') (ha : pe env x = .int k a) (hb : pe env y = .int k b) (hr : bitsI op k a b = some r)
  (hc : r = c) : OpV P Gl B o env (.int k c) := fun _ A w β tmps _ he => by
 refine ⟨.int k c, ?_, .int ..⟩
 subst hc
 simp only [execOp, ho, int_of he ha, int_of he hb, Sem.run_bind]
 unfold bitsI at hr
 split at hr <;> cases hr <;> simp [eqGuard, binOp, Op.intBits]
theorem tkOf_int {d : TypeDesc} {k : IntKind} (h : TK.int k = tkOf P d) : d = .int k := by
 cases d <;> simp only [tkOf] at h <;> first | (cases h; done) | (cases h; rfl) | skip
 all_goals (split at h <;> cases h)
theorem v_conv {s t : TypeId} {x : Operand} {k k' : IntKind} {a c : Int} (hT : Tys P tys) (ho : o.op = .convert s t x) (ha : pe env x = .int k' a) {si : TI} (hs : tys[s]? = some si) {z1 z2 : Nat} {z3 : Option (List PV)} (ht : tys[t]? = some ⟨.int k, z1, z2, z3⟩)
  (hc : k.wrap a = c) : OpV P Gl B o env (.int k c) := fun _ A w β tmps _ he => by
 refine ⟨.int k c, ?_, .int ..⟩
 subst hc
 obtain ⟨i, d, hi1, hu, htk, _⟩ := tyOf_spec (hT _ _ ht)
 obtain ⟨i', d', hi1', hu', _⟩ := tyOf_spec (hT _ _ hs)
 have := tkOf_int htk
 subst this
 simp only [execOp, ho, int_of he ha, Go.convert, Sem.run_bind, run_underlying hu, run_underlying hu', Result.andThen_ok]
 simp [Conv.intToInt]
theorem v_concat {t t' : TypeId} {x y : Operand} {a b : List UInt8} (ho : o.op = .binOp .add t x y t') (ha : pe env x = .str a) (hb : pe env y = .str b)
  (hl : a.length + b.length ≤ 9223372036854775807) : OpV P Gl B o env (.str (a ++ b)) := fun _ A w β tmps _ he => by
 refine ⟨.string ⟨(a ++ b).toArray⟩, ?_, .str ..⟩
 have hm : IntKind.i64.max = 9223372036854775807 := by decide
 have h1 : ¬ (((a.length + b.length : Nat) : Int) > IntKind.i64.max) := by rw [hm]; omega
 have h2 : (⟨a.toArray⟩ : ByteArray) ++ (⟨b.toArray⟩ : ByteArray) = ⟨(a ++ b).toArray⟩ := by
  apply ByteArray.ext
  simp
 simp only [execOp, ho, str_of he ha, str_of he hb, Sem.run_bind]
 simp only [eqGuard, binOp, Op.stringOp, ByteArray.size, List.size_toArray, if_neg h1, h2]
 simp
theorem tkOf_sl' {d : TypeDesc} {e s by_ : Nat} (h : TK.sl e s by_ = tkOf P d) : d = .slice e ∧ szOf P e = some s := by
 obtain ⟨h1, i, h2, h3, _⟩ := tkOf_sl h
 exact ⟨h1, by simp [szOf, h2, h3]⟩
theorem v_index {t : TypeId} {x y : Operand} {xs : List PV} {k : IntKind} {i : Int} {p : PV} (hT : Tys P tys) (ho : o.op = .indexAddr t x y) {e s b z1 z2 : Nat} {z3 : Option (List PV)} (ht : tys[t]? = some ⟨.sl e s b, z1, z2, z3⟩)
  (hx : pe env x = .sl xs) (hy : pe env y = .int k i) (h0 : 0 ≤ i) (hp : xs[i.toNat]? = some p) (hs : p.cells.length = s) : OpV P Gl B o env (.vptr p.cells) := fun _ A w β tmps _ he => by
 obtain ⟨ti, d, hi1, hu, htk, _⟩ := tyOf_spec (hT _ _ ht)
 obtain ⟨rfl, hse⟩ := tkOf_sl' htk
 have hd := he.eval [] x
 rw [hx] at hd
 have hlt : i.toNat < xs.length := (List.getElem?_eq_some_iff.1 hp).1
 have hi : i = (i.toNat : Int) := by omega
 generalize hv : (⟨tmps.toArray, []⟩ : Act).eval x = v at hd
 cases hd with
 | slnil => simp at hlt
 | sl _ kk _ a cap f h1 h2 h3 h4 h5 h6 =>
  have hne : xs ≠ [] := by rintro rfl; simp at hlt
  obtain ⟨hA, hsp⟩ := h1 hne
  have hkk : kk = s := by rw [← h4 p (List.mem_of_getElem? hp)]; exact hs
  subst hkk
  obtain ⟨ab, ao, asp⟩ := a
  simp only at hA hsp h5
  subst hsp
  refine ⟨.pointer (some ⟨ab, ao + i.toNat * kk, none⟩), ?_, .vptr _ _ _ _ (f i.toNat) hA (fun j c hc => ?_) (fun j c hc => h6 _ _ _ _ hp hc)⟩
  ·simp only [execOp, ho, int_of he hy, hv, Instr.indexAt, asIntOf, Sem.run_bind, Sem.run_pure, Result.andThen_ok, run_underlying hu]
   have hc : 0 ≤ i ∧ i < ((xs.length : Nat) : Int) := ⟨h0, by omega⟩
   simp only [Sem.run_pure, Result.andThen_ok, if_pos hc, Sem.run_bind, run_size hse, addr_add]
  ·rw [Nat.add_assoc]; exact h5 _ _ _ _ hp hc
theorem v_indexs {t : TypeId} {x y : Operand} {s : List UInt8} {k : IntKind} {i : Int} {c : UInt8} (hT : Tys P tys) (ho : o.op = .index t x y) {z1 z2 : Nat} {z3 : Option (List PV)} (ht : tys[t]? = some ⟨.str, z1, z2, z3⟩)
  (hx : pe env x = .str s) (hy : pe env y = .int k i) (h0 : 0 ≤ i) (hp : s[i.toNat]? = some c) : OpV P Gl B o env (.int .u8 c.toNat) := fun _ A w β tmps _ he => by
 obtain ⟨ti, d, hi1, hu, htk, _⟩ := tyOf_spec (hT _ _ ht)
 have := tkOf_str htk
 subst this
 refine ⟨_, ?_, .int ..⟩
 have hb : (⟨s.toArray⟩ : ByteArray)[i.toNat]? = some c := by
  have hlt : i.toNat < s.length := (List.getElem?_eq_some_iff.1 hp).1
  have hlt' : i.toNat < (⟨s.toArray⟩ : ByteArray).size := by simpa [ByteArray.size] using hlt
  rw [getElem?_pos (⟨s.toArray⟩ : ByteArray) i.toNat hlt']
  rw [List.getElem?_eq_getElem hlt] at hp
  cases hp
  rfl
 simp only [execOp, ho, int_of he hy, str_of he hx, Instr.index, asIntOf, Sem.run_bind, Sem.run_pure, Result.andThen_ok, run_underlying hu, if_pos h0, hb]
def bnd (env : List PV) (d : Nat) : Option Operand → Option Int
 | none => some d
 | some x => match pe env x with
  | .int _ n => some n
  | _ => none
theorem run_bounds {A : Nat → Prop} {w : World} {β : List Nat} {tmps : List Value} (he : EnvRel A w β env tmps) {lo hi : Option Operand} {n cap : Nat} {l h : Int} (isS : Bool) (hl : bnd env 0 lo = some l) (hh : bnd env n hi = some h) (h0 : 0 ≤ l) (h1 : l ≤ h)
  (h2 : h ≤ cap) : (Instr.sliceBounds isS n cap (lo.map (⟨tmps.toArray, []⟩ : Act).eval) (hi.map (⟨tmps.toArray, []⟩ : Act).eval) none).run P w = .ok (l.toNat, h.toNat, cap) w := by
 unfold Instr.sliceBounds
 simp only [Sem.run_bind, Sem.run_pure, Result.andThen_ok, Option.isSome_none, Bool.false_eq_true, if_false]
 have bound : ∀ (x : Operand) (y : Nat) (code : BoundsCode) (z : Int), bnd env 0 (some x) = some z → 0 ≤ z → z ≤ y → (Instr.sliceBound ((⟨tmps.toArray, []⟩ : Act).eval x) y code).run P w = .ok z.toNat w := by
  intro x y code z hz h0 h1
  simp only [bnd] at hz
  split at hz
  ·rename_i kx n' hx
   cases hz
   simp only [Instr.sliceBound, int_of he hx, asIntOf, Sem.run_bind, Sem.run_pure, Result.andThen_ok, if_pos (And.intro h0 h1)]
  ·cases hz
 have hib : ∀ x, bnd env n (some x) = bnd env 0 (some x) := fun x => rfl
 cases hi with
 | none =>
  simp only [bnd] at hh
  cases hh
  cases lo with
  | none => simp only [bnd] at hl; cases hl; simp
  | some x => simp [bound x n _ l hl h0 h1]
 | some y =>
  have hy : bnd env 0 (some y) = some h := by rw [← hib]; exact hh
  simp only [Option.map_some, Sem.run_bind, Result.andThen_ok, bound y cap _ h hy (by omega) h2]
  cases lo with
  | none => simp only [bnd] at hl; cases hl; simp
  | some x => simp [bound x h.toNat _ l hl h0 (by omega)]
theorem v_substr {t : TypeId} {x : Operand} {lo hi : Option Operand} {s : List UInt8} {l h : Int} (hT : Tys P tys) (ho : o.op = .slice t x lo hi none) {z1 z2 : Nat} {z3 : Option (List PV)} (ht : tys[t]? = some ⟨.str, z1, z2, z3⟩)
  (hx : pe env x = .str s) (hl : bnd env 0 lo = some l) (hh : bnd env s.length hi = some h) (h0 : 0 ≤ l) (h1 : l ≤ h) (h2 : h ≤ s.length) : OpV P Gl B o env (.str ((s.take h.toNat).drop l.toNat)) := fun _ A w β tmps _ he => by
 obtain ⟨ti, d, hi1, hu, htk, _⟩ := tyOf_spec (hT _ _ ht)
 have := tkOf_str htk
 subst this
 refine ⟨_, ?_, .str ..⟩
 have hb := run_bounds (P := P) (w := w) he (lo := lo) (hi := hi) (n := s.length) (cap := s.length) false hl hh h0 h1 h2
 have he' : (⟨s.toArray⟩ : ByteArray).extract l.toNat h.toNat = ⟨((s.take h.toNat).drop l.toNat).toArray⟩ := by
  apply ByteArray.ext
  rw [ByteArray.data_extract, List.extract_toArray, List.extract_eq_drop_take']
 simp only [execOp, ho, Instr.sliceAt, str_of he hx, Sem.run_bind, run_underlying hu, Result.andThen_ok, Instr.slice, Option.map_none, Option.isSome_none, Bool.false_eq_true, if_false]
 simp only [ByteArray.size, List.size_toArray, hb, Result.andThen_ok, Sem.run_pure, he']
theorem v_slice {t : TypeId} {x : Operand} {lo hi : Option Operand} {xs : List PV} {l h : Int} (hT : Tys P tys) (ho : o.op = .slice t x lo hi none) {e s b z1 z2 : Nat} {z3 : Option (List PV)} (ht : tys[t]? = some ⟨.sl e s b, z1, z2, z3⟩)
  (hx : pe env x = .sl xs) (hl : bnd env 0 lo = some l) (hh : bnd env xs.length hi = some h) (h0 : 0 ≤ l) (h1 : l ≤ h) (h2 : h ≤ xs.length) (hs : ∀ x ∈ xs, x.cells.length = s) : OpV P Gl B o env (.sl ((xs.take h.toNat).drop l.toNat)) := fun _ A w β tmps _ he => by
 obtain ⟨ti, d, hi1, hu, htk, _⟩ := tyOf_spec (hT _ _ ht)
 obtain ⟨rfl, hse⟩ := tkOf_sl' htk
 have hd := he.eval [] x
 rw [hx] at hd
 generalize hv : (⟨tmps.toArray, []⟩ : Act).eval x = v at hd
 have hlen : ((xs.take h.toNat).drop l.toNat).length = h.toNat - l.toNat := by simp; omega
 cases hd with
 | slnil =>
  have hb := run_bounds (P := P) (w := w) he (lo := lo) (hi := hi) (n := 0) (cap := 0) true hl hh h0 h1 (by simpa using h2)
  have hh0 : h.toNat = 0 := by simp at h2; omega
  have hl0 : l.toNat = 0 := by omega
  refine ⟨.slice none 0 0, ?_, by simpa using Den.slnil β⟩
  simp only [execOp, ho, Instr.sliceAt, hv, Sem.run_bind, run_underlying hu, Result.andThen_ok, Instr.slice, Option.map_none]
  simp only [hb, Result.andThen_ok, run_size hse, Sem.run_pure, hh0, hl0]
  simp
 | sl _ kk _ a cap f g1 g2 g3 g4 g5 g6 =>
  have hb := run_bounds (P := P) (w := w) he (lo := lo) (hi := hi) (n := xs.length) (cap := cap) true hl hh h0 h1 (by omega)
  have hr : (execOp (⟨tmps.toArray, []⟩ : Act).eval o).run P w = .ok (.value (.slice (some (if cap = l.toNat then a else a.add (l.toNat * s))) (h.toNat - l.toNat) (cap - l.toNat))) w := by
   simp only [execOp, ho, Instr.sliceAt, hv, Sem.run_bind, run_underlying hu, Result.andThen_ok, Instr.slice, Option.map_none]
   simp only [hb, Result.andThen_ok, run_size hse, Sem.run_pure, Option.map_some]
   split <;> rfl
  refine ⟨_, hr, ?_⟩
  rw [← hlen]
  refine .sl _ s _ _ _ (fun i j => f (i + l.toNat) j) (fun hne => ?_) (by rw [hlen]; omega) (by omega) (fun x hxm => hs x (List.mem_of_mem_take (List.mem_of_mem_drop hxm))) (fun i x j c hxi hc => ?_) (fun i x j c hxi hc => ?_)
  ·have hne' : xs ≠ [] := by rintro rfl; simp at hne
   obtain ⟨q1, q2⟩ := g1 hne'
   split
   ·exact ⟨q1, q2⟩
   ·unfold Addr.add
    split
    ·exact ⟨q1, q2⟩
    ·exact ⟨q1, rfl⟩
  ·rw [List.getElem?_drop, List.getElem?_take] at hxi
   split at hxi
   ·rename_i hlt
    have hkk : kk = s := by rw [← g4 x (List.mem_of_getElem? hxi)]; exact hs x (List.mem_of_getElem? hxi)
    subst hkk
    have hxl := (List.getElem?_eq_some_iff.1 hxi).1
    have hne' : xs ≠ [] := by rintro rfl; simp at hxl
    obtain ⟨q1, q2⟩ := g1 hne'
    have := g5 _ _ _ _ hxi hc
    rw [if_neg (by omega)]
    have ha : a.add (l.toNat * kk) = ⟨a.block, a.off + l.toNat * kk, none⟩ := by
     obtain ⟨ab, ao, asp⟩ := a
     simp only at q2
     subst q2
     exact addr_add _ _ _
    rw [ha]
    simp only
    rw [Nat.add_comm i l.toNat, ← this]
    congr 2
    rw [Nat.add_mul]; omega
   ·cases hxi
  ·rw [List.getElem?_drop, List.getElem?_take] at hxi
   split at hxi
   ·have := g6 _ _ _ _ hxi hc
    rwa [Nat.add_comm i l.toNat]
   ·cases hxi
def forceNat {α : Type} (n : Nat) (k : Nat → α) : α := match n with
 | 0 => k 0
 | n + 1 => k (n + 1)
theorem forceNat_eq {α : Type} (n : Nat) (k : Nat → α) : forceNat n k = k n := by cases n <;> rfl
def forceNs {α : Type} : List Nat → (List Nat → α) → α
 | [], k => k []
 | x :: l, k => forceNat x fun x => forceNs l fun l => k (x :: l)
theorem forceNs_eq {α : Type} : ∀ (l : List Nat) (k : List Nat → α), forceNs l k = k l
 | [], _ => rfl
 | x :: l, k => by rw [forceNs, forceNat_eq, forceNs_eq l]
def forceOn {α : Type} (m : Option Nat) (k : Option Nat → α) : α := match m with
 | none => k none
 | some m => forceNat m fun m => k (some m)
theorem forceOn_eq {α : Type} (m : Option Nat) (k : Option Nat → α) : forceOn m k = k m := by cases m <;> simp [forceOn, forceNat_eq]
def forceEs {α : Type} : List (Nat × PV × PV) → (List (Nat × PV × PV) → α) → α
 | [], k => k []
 | (n, x, v) :: l, k => forceNat n fun n => x.force fun x => v.force fun v => forceEs l fun l => k ((n, x, v) :: l)
theorem forceEs_eq {α : Type} : ∀ (l : List (Nat × PV × PV)) (k : List (Nat × PV × PV) → α), forceEs l k = k l
 | [], _ => rfl
 | (n, x, v) :: l, k => by rw [forceEs, forceNat_eq, PV.force_eq, PV.force_eq, forceEs_eq l]
def forceSt {α : Type} : List PObj → (List PObj → α) → α
 | [], k => k []
 | x :: xs, k => match x with
  | .box cs => forceL cs fun cs => forceSt xs fun ys => k (.box cs :: ys)
  | .arr kk l cap => forceSt xs fun ys => k (.arr kk l cap :: ys)
  | .dead => forceSt xs fun ys => k (.dead :: ys)
  | .map es => forceSt xs fun ys => k (.map es :: ys)
  | .kmap es c => forceEs es fun es => forceNat c fun c => forceSt xs fun ys => k (.kmap es c :: ys)
  | .iter m s l c => forceOn m fun m => forceNat s fun s => forceNs l fun l => forceNat c fun c => forceSt xs fun ys => k (.iter m s l c :: ys)
theorem forceSt_eq {α : Type} : ∀ (l : List PObj) (k : List PObj → α), forceSt l k = k l
 | [], k => rfl
 | x :: xs, k => by cases x <;> simp [forceSt, forceL_eq, forceEs_eq, forceNat_eq, forceNs_eq, forceOn_eq, forceSt_eq xs]
theorem pl_norm {env' : List PV} {st' : List PObj} (h : (forceL env fun e => forceSt st fun s => some (e, s)) = some (env', st')) (hr : PWL P Gl B ops rest env' st' Q) : PWL P Gl B ops rest env st Q := by
 rw [forceL_eq, forceSt_eq] at h
 cases h
 exact hr
theorem pw_norm {c : Code} {env' : List PV} {st' : List PObj} (h : (forceL env fun e => forceSt st fun s => some (e, s)) = some (env', st')) (hr : PW P Gl B c env' st' Q) : PW P Gl B c env st Q := by
 rw [forceL_eq, forceSt_eq] at h
 cases h
 exact hr
theorem pw_condT {c : Operand} {x y : Code} (hc : pe env c = .bool true) (h : PW P Gl B x env st Q) : PW P Gl B (.cond c x y) env st Q := pw_cond hc (fun _ => h) (fun h => by cases h)
theorem pw_condF {c : Operand} {x y : Code} (hc : pe env c = .bool false) (h : PW P Gl B y env st Q) : PW P Gl B (.cond c x y) env st Q := pw_cond hc (fun h => by cases h) (fun _ => h)
theorem wrap_i64 {n : Int} (h1 : -9223372036854775808 ≤ n) (h2 : n ≤ 9223372036854775807) : IntKind.i64.wrap n = n := IntWalk.i64_in n ⟨h1, h2⟩
end rules
end Go.Pw
