/-
 Regions whose order is open: one order serves for all, if pure operations read nothing that another operation of the region may write before them.
-/
import Derived.Still
import Derived.Test.YtokclomhkggikaaGreatDoorJPwCall
namespace Go.Pw
open Go
section draw
variable {P : Program} {Gl : Glob} {B : Base} {tys : List TI} {env : List PV} {st : List PObj} {Q : Post} {ops : Array Oper} {o : Oper}
def maskE (l : List Tmp) : Nat → List PV → List PV
 | _, [] => []
 | i, x :: xs => (if l.contains i then x else .any) :: maskE l (i + 1) xs
theorem maskE_get (l : List Tmp) : ∀ (env : List PV) (k i : Nat), (maskE l k env)[i]? = (env[i]?).map fun x => if l.contains (k + i) then x else .any
 | [], k, i => by simp [maskE]
 | x :: env, k, 0 => by simp [maskE]
 | x :: env, k, i + 1 => by
  simp only [maskE, List.getElem?_cons_succ, maskE_get l env (k + 1) i]
  rw [show k + 1 + i = k + (i + 1) by omega]
theorem maskE_len (l : List Tmp) : ∀ (env : List PV) (k : Nat), (maskE l k env).length = env.length
 | [], _ => rfl
 | _ :: env, k => by simp [maskE, maskE_len l env (k + 1)]
theorem EnvRel.mask {A : Nat → Prop} {w : World} {β : List Nat} {tmps : List Value} {env' : List PV} (h : EnvRel A w β env' tmps) (l : List Tmp) (hl : env'.length = env.length) (ha : ∀ t ∈ l, env'[t]? = env[t]?) :
  EnvRel A w β (maskE l 0 env) tmps := by
 refine ⟨by rw [maskE_len, ← hl]; exact h.1, fun i p v hp hv => ?_⟩
 rw [maskE_get, Nat.zero_add] at hp
 cases hx : env[i]? with
 | none => rw [hx] at hp; cases hp
 | some x =>
  rw [hx] at hp
  simp only [Option.map_some] at hp
  cases hp
  split
  ·rename_i hc
   exact h.2 i x v ((ha i (by simpa using hc)).trans hx) hv
  ·exact .any ..
theorem maskE_agree {env env' : List PV} (l : List Tmp) (hl : env'.length = env.length) (ha : ∀ t ∈ l, env'[t]? = env[t]?) : maskE l 0 env' = maskE l 0 env := by
 apply List.ext_getElem?
 intro i
 rw [maskE_get, maskE_get, Nat.zero_add]
 by_cases hi : l.contains i = true
 ·rw [ha i (by simpa using hi)]
 ·simp only [hi, Bool.false_eq_true, if_false]
  by_cases hlt : i < env.length
  ·rw [List.getElem?_eq_getElem hlt, List.getElem?_eq_getElem (hl ▸ hlt)]; rfl
  ·rw [List.getElem?_eq_none (by omega), List.getElem?_eq_none (by omega)]
def guardE (ops : Array Oper) (env : List PV) (j : Nat) : Option (Option Bool) :=
 match ((ops[j]?).bind (·.dst)).bind (env[·]?) with
 | some (.bool b) => some (some b)
 | some (.tup []) => some none
 | _ => none
theorem guardE_yield {ops : Array Oper} {env : List PV} {j : Nat} {b : Bool} (h : yieldE ops env j = some b) : guardE ops env j = some (some b) := by
 unfold yieldE at h
 unfold guardE
 split at h
 ·rename_i hb; cases h; rw [hb]
 ·cases h
theorem guardE_of {A : Nat → Prop} {w : World} {β : List Nat} {tmps : List Value} (he : EnvRel A w β env tmps) {j : Nat} {y : Option Bool} (h : guardE ops env j = some y) : yielded ops tmps.toArray j = y := by
 unfold guardE at h
 split at h
 ·rename_i b hb
  cases h
  exact yield_of he (by unfold yieldE; rw [hb])
 ·rename_i hb
  cases h
  exact noYield_of he (by unfold noYield; rw [hb])
 ·cases h
def StepD (P : Program) (Gl : Glob) (B : Base) (ops : Array Oper) (i : Nat) (env : List PV) (st : List PObj) (K : List PV → List PObj → Prop) : Prop :=
 match ops[i]? with
 | none => K env st
 | some o => match o.guard with
  | none => OpP P Gl B o (maskE (o.looksAt ops) 0 env) st fun x st' => K (putE env o.dst x) st'
  | some (j, want) => ∃ b, guardE ops env j = some b ∧ ((b = some want → OpP P Gl B o (maskE (o.looksAt ops) 0 env) st fun x st' => K (putE env o.dst x) st') ∧ (b ≠ some want → K (putE env o.dst (.tup [])) st))
def waits (ops : Array Oper) (j k : Nat) : Bool :=
 match ops[j]? with
 | some o => o.after.any fun e => Region.binds .any e && e.on == k
 | none => false
def LOK (ops : Array Oper) (j : Nat) (st st' : List PObj) : List (Nat × Nat) → Prop
 | [] => True
 | (k, pos) :: L => (waits ops j k = true ∨ st'[pos]? = st[pos]?) ∧ LOK ops j st st' L
theorem LOK.mem {j : Nat} {st st' : List PObj} : ∀ {L : List (Nat × Nat)}, LOK ops j st st' L → ∀ k pos, (k, pos) ∈ L → waits ops j k = true ∨ st'[pos]? = st[pos]?
 | [], _, k, pos, h => by cases h
 | (k', pos') :: L, ⟨h1, h2⟩, k, pos, h => by
  rcases List.mem_cons.1 h with h | h
  ·cases h; exact h1
  ·exact h2.mem k pos h
theorem LOK.refl (j : Nat) (st : List PObj) : ∀ (L : List (Nat × Nat)), LOK ops j st st L
 | [] => trivial
 | (_k, _pos) :: L => ⟨.inr rfl, LOK.refl j st L⟩
theorem LOK.of {j : Nat} {st st' : List PObj} : ∀ {L : List (Nat × Nat)}, (∀ k pos, (k, pos) ∈ L → waits ops j k = true ∨ st'[pos]? = st[pos]?) → LOK ops j st st' L
 | [], _ => trivial
 | (k, pos) :: L, h => ⟨h k pos (by simp), LOK.of fun k' pos' hm => h k' pos' (by simp [hm])⟩
def PWD (P : Program) (Gl : Glob) (B : Base) (ops : Array Oper) (Q : Post) : Nat → Array Bool → List PV → List PObj → List (Nat × Nat) → Prop
 | 0, listed, env, st, _ => Region.ready .any ops listed = [] ∧ Q .normal env st
 | n + 1, listed, env, st, L => (Region.ready .any ops listed = [] → Q .normal env st) ∧
  ∀ i ∈ Region.ready .any ops listed, StepD P Gl B ops i env st fun env' st' => LOK ops i st st' L ∧ PWD P Gl B ops Q n (listed.setIfInBounds i true) env' st' L
theorem StepD.mono {i : Nat} {K K' : List PV → List PObj → Prop} (h : StepD P Gl B ops i env st K) (hk : ∀ e s, K e s → K' e s) : StepD P Gl B ops i env st K' := by
 have op : ∀ (o : Oper) (env : List PV), OpP P Gl B o (maskE (o.looksAt ops) 0 env) st (fun x st' => K (putE env o.dst x) st') → OpP P Gl B o (maskE (o.looksAt ops) 0 env) st (fun x st' => K' (putE env o.dst x) st') := by
  intro o env h A w β tmps Qx hi he
  refine Oper.wp_mono ?_ (h A w β tmps Qx hi he)
  rintro a' w' ⟨v, x, st', A', β', h1, h2, h3⟩
  exact ⟨v, x, st', A', β', h1, hk _ _ h2, h3⟩
 unfold StepD at h ⊢
 cases ho : ops[i]? with
 | none => simp only [ho] at h ⊢; exact hk _ _ h
 | some o =>
  simp only [ho] at h ⊢
  cases hg : o.guard with
  | none => simp only [hg] at h ⊢; exact op o env h
  | some g =>
   obtain ⟨j, want⟩ := g
   simp only [hg] at h ⊢
   obtain ⟨b, h1, h2, h3⟩ := h
   exact ⟨b, h1, fun hb => op o env (h2 hb), fun hb => hk _ _ (h3 hb)⟩
theorem PWD.drop : ∀ (n : Nat) {listed : Array Bool} {env : List PV} {st : List PObj} {L : List (Nat × Nat)} {x : Nat × Nat}, PWD P Gl B ops Q n listed env st (x :: L) → PWD P Gl B ops Q n listed env st L
 | 0, _, _, _, _, _, h => h
 | n + 1, _, _, _, _, _, h => ⟨h.1, fun i hi => (h.2 i hi).mono fun _ _ ⟨h1, h2⟩ => ⟨h1.2, PWD.drop n h2⟩⟩
theorem StepD.sound {i : Nat} {K : List PV → List PObj → Prop} (h : StepD P Gl B ops i env st K) {F : Act → World → Prop} {A : Nat → Prop} {w : World} {β : List Nat} {tmps : List Value}
  (hi : Inv Gl B A w β st) (he : EnvRel A w β env tmps)
  (hF : ∀ env' st' A' w' β' tmps', K env' st' → Inv Gl B A' w' β' st' → EnvRel A' w' β' env' tmps' → Ext A w A' w' → Pre β β' → F ⟨tmps'.toArray, []⟩ w') (Q' : Exit → Act → World → Prop) :
  wpOp P ops Q' i F ⟨tmps.toArray, []⟩ w := by
 have op : ∀ (o : Oper), OpP P Gl B o (maskE (o.looksAt ops) 0 env) st (fun x st' => K (putE env o.dst x) st') → o.wp P ⟨tmps.toArray, []⟩ w F Q' := by
  intro o h
  refine Oper.wp_mono ?_ (h A w β tmps Q' hi (he.mask _ rfl (fun _ _ => rfl)))
  rintro a' w' ⟨v, x, st', A', β', rfl, h2, h3, h4, h5, h6⟩
  rw [put_tmps]
  exact hF _ _ _ _ _ _ h2 h4 ((he.mono h5 h6).put o.dst h3) h5 h6
 unfold StepD at h
 unfold wpOp
 cases ho : ops[i]? with
 | none => simp only [ho] at h ⊢; exact hF _ _ _ _ _ _ h hi he (.refl _ _) (.refl _)
 | some o =>
  simp only [ho] at h ⊢
  cases hg : o.guard with
  | none =>
   simp only [hg] at h
   rw [if_pos (by simp [Region.wanted, hg])]
   exact .inl (op o h)
  | some g =>
   obtain ⟨j, want⟩ := g
   simp only [hg] at h
   obtain ⟨b, h1, h2, h3⟩ := h
   have hy := guardE_of he h1
   by_cases hb : b = some want
   ·rw [if_pos (by simp [Region.wanted, hg, hy, hb])]
    exact .inl (op o (h2 hb))
   ·rw [if_neg (by simp [Region.wanted, hg, hy, hb])]
    rw [put_tmps]
    exact hF _ _ _ _ _ _ (h3 hb) hi (he.put o.dst (den_undef ..)) (.refl _ _) (.refl _)
theorem PWD.sound : ∀ (n : Nat) {listed : Array Bool} {env : List PV} {st : List PObj} {L : List (Nat × Nat)}, PWD P Gl B ops Q n listed env st L →
  ∀ {A : Nat → Prop} {w : World} {β : List Nat} {tmps : List Value}, Inv Gl B A w β st → EnvRel A w β env tmps → wpAny P .any ops (Real Gl B Q) n listed ⟨tmps.toArray, []⟩ w
 | 0, _, _, _, _, h, A, w, β, tmps, hi, he => ⟨h.1, _, _, A, β, tmps, rfl, h.2, hi, he⟩
 | n + 1, listed, env, st, L, h, A, w, β, tmps, hi, he => by
  refine ⟨fun h0 => ⟨_, _, A, β, tmps, rfl, h.1 h0, hi, he⟩, fun i hin => (h.2 i hin).sound hi he ?_ _⟩
  rintro env' st' A' w' β' tmps' ⟨_, h2⟩ hi' he' hx hp
  exact PWD.sound n h2 hi' he'
def Free (P : Program) (Gl : Glob) (B : Base) (ops : Array Oper) (o : Oper) (x : PV) (pos : Option Nat) (env : List PV) (st : List PObj) : Prop :=
 let val : Prop := ∀ st', (∀ p, pos = some p → st'[p]? = st[p]?) → OpP P Gl B o (maskE (o.looksAt ops) 0 env) st' fun y s => y = x ∧ s = st'
 match o.guard with
 | none => val
 | some (j, want) => ∃ b, guardE ops env j = some b ∧ (b = some want → val) ∧ (b ≠ some want → x = .tup [])
theorem yieldE_agree {env env' : List PV} {o : Oper} {j : Nat} {want : Bool} (hg : o.guard = some (j, want)) (he : ∀ t ∈ o.looksAt ops, env'[t]? = env[t]?) : guardE ops env' j = guardE ops env j := by
 unfold guardE
 cases hd : (ops[j]?).bind (·.dst) with
 | none => rfl
 | some u =>
  simp only [Option.bind_some]
  rw [he u (by simp [Oper.looksAt, hg, hd])]
theorem Free.agree {x : PV} {pos : Option Nat} (h : Free P Gl B ops o x pos env st) {env' : List PV} {st' : List PObj} (hl : env'.length = env.length) (ha : ∀ t ∈ o.looksAt ops, env'[t]? = env[t]?)
  (hp : ∀ p, pos = some p → st'[p]? = st[p]?) : Free P Gl B ops o x pos env' st' := by
 unfold Free at h ⊢
 rw [maskE_agree _ hl ha]
 cases hg : o.guard with
 | none => simp only [hg] at h ⊢; exact fun s hs => h s fun p hpp => (hs p hpp).trans (hp p hpp)
 | some g =>
  obtain ⟨j, want⟩ := g
  simp only [hg] at h ⊢
  obtain ⟨b, h1, h2, h3⟩ := h
  exact ⟨b, (yieldE_agree hg ha).trans h1, fun hb s hs => h2 hb s fun p hpp => (hs p hpp).trans (hp p hpp), h3⟩
theorem OpP.mono' {K K' : PV → List PObj → Prop} (h : OpP P Gl B o env st K) (hk : ∀ x s, K x s → K' x s) : OpP P Gl B o env st K' := by
 intro A w β tmps Qx hi he
 refine Oper.wp_mono ?_ (h A w β tmps Qx hi he)
 rintro a' w' ⟨v, x, st', A', β', h1, h2, h3⟩
 exact ⟨v, x, st', A', β', h1, hk _ _ h2, h3⟩
theorem Free.step {x : PV} {pos : Option Nat} {i : Nat} (hi : ops[i]? = some o) (h : Free P Gl B ops o x pos env st) {K : List PV → List PObj → Prop} (hK : K (putE env o.dst x) st) : StepD P Gl B ops i env st K := by
 unfold StepD
 unfold Free at h
 simp only [hi]
 cases hg : o.guard with
 | none => simp only [hg] at h ⊢; exact (h st fun _ _ => rfl).mono' fun y s hh => by rw [hh.1, hh.2]; exact hK
 | some g =>
  obtain ⟨j, want⟩ := g
  simp only [hg] at h ⊢
  obtain ⟨b, h1, h2, h3⟩ := h
  exact ⟨b, h1, fun hb => (h2 hb st fun _ _ => rfl).mono' fun y s hh => by rw [hh.1, hh.2]; exact hK, fun hb => by rw [h3 hb] at hK; exact hK⟩
theorem putE_get {env : List PV} {d : Option Tmp} {x : PV} {t : Nat} (h : ∀ e, d = some e → t ≠ e) : (putE env d x)[t]? = env[t]? := by
 cases d with
 | none => rfl
 | some e => simp only [putE]; rw [List.getElem?_set, if_neg (fun hh => h e rfl hh.symm)]
theorem putE_len {env : List PV} {d : Option Tmp} {x : PV} : (putE env d x).length = env.length := by cases d <;> simp [putE]
theorem putE_comm {env : List PV} {d e : Option Tmp} {x y : PV} (h : ∀ t, d = some t → e ≠ some t) : putE (putE env d x) e y = putE (putE env e y) d x := by
 cases d with
 | none => rfl
 | some t => cases e with
  | none => rfl
  | some u => simp only [putE]; exact List.set_comm _ _ (fun hh => h t rfl (by rw [hh]))
theorem yieldE_put {d : Option Tmp} {x : PV} {j : Nat} (h : ∀ t, d = some t → ((ops[j]?).bind (·.dst)) ≠ some t) : guardE ops (putE env d x) j = guardE ops env j := by
 unfold guardE
 cases hd : (ops[j]?).bind (·.dst) with
 | none => rfl
 | some u =>
  simp only [Option.bind_some]
  rw [putE_get (fun e he hu => h e he (by rw [hd, hu]))]
theorem StepD.unput {j : Nat} {oj : Oper} {d : Option Tmp} {x : PV} {K : List PV → List PObj → Prop} (hj : ops[j]? = some oj) (hd : ∀ t, d = some t → t ∉ oj.looksAt ops) (hdd : ∀ t, d = some t → oj.dst ≠ some t)
  (h : StepD P Gl B ops j (putE env d x) st K) : StepD P Gl B ops j env st fun env' st' => K (putE env' d x) st' := by
 have hm : maskE (oj.looksAt ops) 0 (putE env d x) = maskE (oj.looksAt ops) 0 env := maskE_agree _ putE_len fun t ht => putE_get fun e he hte => hd e he (hte ▸ ht)
 unfold StepD at h ⊢
 simp only [hj, hm] at h ⊢
 have cm : ∀ y : PV, putE (putE env d x) oj.dst y = putE (putE env oj.dst y) d x := fun y => putE_comm hdd
 cases hg : oj.guard with
 | none =>
  simp only [hg] at h ⊢
  simpa only [cm] using h
 | some g =>
  obtain ⟨k, want⟩ := g
  simp only [hg] at h ⊢
  obtain ⟨b, h1, h2, h3⟩ := h
  refine ⟨b, ?_, fun hb => ?_, fun hb => ?_⟩
  ·rw [← h1]
   refine (yieldE_put fun t ht hh => hd t ht ?_).symm
   simp [Oper.looksAt, hg, hh]
  ·have := h2 hb
   simpa only [cm] using this
  ·have := h3 hb
   rwa [cm] at this
theorem PWD.first {i : Nat} {oi : Oper} {x : PV} {pos : Option Nat} (hi : ops[i]? = some oi) :
  ∀ (n : Nat) (listed : Array Bool) (env : List PV) (st : List PObj) (L : List (Nat × Nat)),
   (∀ j oj, ops[j]? = some oj → j ≠ i → listed.getD j true = false → (∀ e ∈ oj.after, Region.binds .any e = true → e.on ≠ i) → oi.apart ops oj = true) →
   i ∈ Region.ready .any ops listed → Free P Gl B ops oi x pos env st →
   PWD P Gl B ops Q n (listed.setIfInBounds i true) (putE env oi.dst x) st ((pos.toList.map fun p => (i, p)) ++ L) → PWD P Gl B ops Q (n + 1) listed env st L := by
 have dropL : ∀ n listed env st L, PWD P Gl B ops Q n listed env st ((pos.toList.map fun p => (i, p)) ++ L) → PWD P Gl B ops Q n listed env st L := by
  intro n listed env st L h
  cases pos with
  | none => exact h
  | some p => exact PWD.drop n h
 intro n
 induction n with
 | zero =>
  intro listed env st L _ hr hf H
  refine ⟨fun h => (by rw [h] at hr; cases hr), fun j hj => ?_⟩
  by_cases hji : j = i
  ·subst hji
   exact hf.step hi ⟨LOK.refl _ _ _, dropL _ _ _ _ _ H⟩
  ·have := ready_mono hj hji
   rw [H.1] at this
   cases this
 | succ n ih =>
  intro listed env st L hfree hr hf H
  refine ⟨fun h => (by rw [h] at hr; cases hr), fun j hj => ?_⟩
  by_cases hji : j = i
  ·subst hji
   exact hf.step hi ⟨LOK.refl _ _ _, dropL _ _ _ _ _ H⟩
  ·have h1 := H.2 j (ready_mono hj hji)
   obtain ⟨hjun, oj, hoj, hall⟩ := mem_ready.1 hj
   have hnot : ∀ e ∈ oj.after, Region.binds .any e = true → e.on ≠ i := fun e he hb heq => by
    have h1 := hall e he hb
    have h0 := (mem_ready.1 hr).1
    rw [heq] at h1
    rcases Nat.lt_or_ge i listed.size with h' | h'
    ·simp [h'] at h0 h1; rw [h0] at h1; cases h1
    ·simp [Array.getElem?_eq_none h'] at h1
   have hap := hfree j oj hoj hji hjun hnot
   obtain ⟨a1, a2, a3⟩ := Oper.apart_spec hap
   have hnw : waits ops j i = false := by
    unfold waits
    simp only [hoj]
    rw [Bool.eq_false_iff]
    intro ht
    rw [Array.any_eq_true'] at ht
    obtain ⟨e, hm, he⟩ := ht
    simp only [Bool.and_eq_true, beq_iff_eq] at he
    exact hnot e hm he.1 he.2
   have h2 := StepD.unput (d := oi.dst) (x := x) hoj a1 a2 h1
   have hfree' : ∀ k ok, ops[k]? = some ok → k ≠ i → (listed.setIfInBounds j true).getD k true = false →
     (∀ e ∈ ok.after, Region.binds .any e = true → e.on ≠ i) → oi.apart ops ok = true := fun k ok hk hki hun hno => by
    refine hfree k ok hk hki ?_ hno
    by_cases hjk : j = k
    ·subst hjk; exact hjun
    ·rw [getD_set_ne true hjk] at hun; exact hun
   -- what j leaves in the frame: the slots that i looks at are as they were
   have keep : StepD P Gl B ops j env st fun env' st' => (env'.length = env.length ∧ ∀ t ∈ oi.looksAt ops, env'[t]? = env[t]?) ∧
     (LOK ops j st st' ((pos.toList.map fun p => (i, p)) ++ L) ∧ PWD P Gl B ops Q n ((listed.setIfInBounds i true).setIfInBounds j true) (putE env' oi.dst x) st' ((pos.toList.map fun p => (i, p)) ++ L)) := by
    have put : ∀ y : PV, (putE env oj.dst y).length = env.length ∧ ∀ t ∈ oi.looksAt ops, (putE env oj.dst y)[t]? = env[t]? := fun y =>
     ⟨putE_len, fun t ht => putE_get fun e he hte => a3 e he (hte ▸ ht)⟩
    unfold StepD at h2 ⊢
    simp only [hoj] at h2 ⊢
    have op : OpP P Gl B oj (maskE (oj.looksAt ops) 0 env) st (fun y st' => LOK ops j st st' ((pos.toList.map fun p => (i, p)) ++ L) ∧ PWD P Gl B ops Q n ((listed.setIfInBounds i true).setIfInBounds j true) (putE (putE env oj.dst y) oi.dst x) st' ((pos.toList.map fun p => (i, p)) ++ L)) →
      OpP P Gl B oj (maskE (oj.looksAt ops) 0 env) st (fun y st' => ((putE env oj.dst y).length = env.length ∧ ∀ t ∈ oi.looksAt ops, (putE env oj.dst y)[t]? = env[t]?) ∧
       (LOK ops j st st' ((pos.toList.map fun p => (i, p)) ++ L) ∧ PWD P Gl B ops Q n ((listed.setIfInBounds i true).setIfInBounds j true) (putE (putE env oj.dst y) oi.dst x) st' ((pos.toList.map fun p => (i, p)) ++ L))) := by
     intro h A w β tmps Qx hi he
     refine Oper.wp_mono ?_ (h A w β tmps Qx hi he)
     rintro a' w' ⟨v, y, st', A', β', g1, g2, g3⟩
     exact ⟨v, y, st', A', β', g1, ⟨put y, g2⟩, g3⟩
    cases hg : oj.guard with
    | none => simp only [hg] at h2 ⊢; exact op h2
    | some g =>
     obtain ⟨k, want⟩ := g
     simp only [hg] at h2 ⊢
     obtain ⟨b, g1, g2, g3⟩ := h2
     exact ⟨b, g1, fun hb => op (g2 hb), fun hb => ⟨put (.tup []), g3 hb⟩⟩
   refine keep.mono ?_
   rintro env' st' ⟨⟨e1, e2⟩, hL, hp⟩
   refine ⟨LOK.of fun k p hm => hL.mem k p (List.mem_append_right _ hm), ih (listed.setIfInBounds j true) env' st' L hfree' (ready_mono hr (Ne.symm hji)) ?_ ?_⟩
   ·refine hf.agree e1 e2 fun p hpp => ?_
    rcases hL.mem i p (List.mem_append_left _ (by simp [hpp])) with h | h
    ·rw [hnw] at h; cases h
    ·exact h
   ·rw [Array.setIfInBounds_comm _ _ hji]
    exact hp
def okOrd (ops : Array Oper) : List (Nat × Bool) → Array Bool → Bool
 | [], listed => (Region.ready .any ops listed).isEmpty
 | (i, fr) :: rest, listed => (if fr then (Region.ready .any ops listed).contains i && Region.free .any ops listed i else Region.ready .any ops listed == [i]) && okOrd ops rest (listed.setIfInBounds i true)
def okOrdP (ops : Array Oper) : List (Nat × Bool) → Array Bool → Bool
 | [], _ => true
 | (i, fr) :: rest, listed => (if fr then (Region.ready .any ops listed).contains i && Region.free .any ops listed i else Region.ready .any ops listed == [i]) && okOrdP ops rest (listed.setIfInBounds i true)
def endL : List (Nat × Bool) → Array Bool → Array Bool
 | [], listed => listed
 | (i, _) :: rest, listed => endL rest (listed.setIfInBounds i true)
theorem okOrd_P (ops : Array Oper) : ∀ (ord : List (Nat × Bool)) (listed : Array Bool), okOrd ops ord listed = true → okOrdP ops ord listed = true ∧ Region.ready .any ops (endL ord listed) = []
 | [], listed, h => ⟨rfl, by simpa [okOrd, endL] using h⟩
 | (i, fr) :: rest, listed, h => by
  simp only [okOrd, Bool.and_eq_true] at h
  have := okOrd_P ops rest _ h.2
  exact ⟨by simp only [okOrdP, Bool.and_eq_true]; exact ⟨h.1, this.1⟩, this.2⟩
def PWO (P : Program) (Gl : Glob) (B : Base) (ops : Array Oper) (E : List PV → List PObj → List (Nat × Nat) → Prop) : List (Nat × Bool) → List PV → List PObj → List (Nat × Nat) → Prop
 | [], env, st, L => E env st L
 | (i, true) :: rest, env, st, L => ∃ oi x pos, ops[i]? = some oi ∧ Free P Gl B ops oi x pos env st ∧ PWO P Gl B ops E rest (putE env oi.dst x) st ((pos.toList.map fun p => (i, p)) ++ L)
 | (i, false) :: rest, env, st, L => StepD P Gl B ops i env st fun env' st' => LOK ops i st st' L ∧ PWO P Gl B ops E rest env' st' L
theorem PWO.soundP {E : List PV → List PObj → List (Nat × Nat) → Prop} (n : Nat) : ∀ (ord : List (Nat × Bool)) (listed : Array Bool) (env : List PV) (st : List PObj) (L : List (Nat × Nat)), okOrdP ops ord listed = true →
  (∀ env st L, E env st L → PWD P Gl B ops Q n (endL ord listed) env st L) → PWO P Gl B ops E ord env st L → PWD P Gl B ops Q (ord.length + n) listed env st L
 | [], listed, env, st, L, _, hE, h => by rw [List.length_nil, Nat.zero_add]; exact hE env st L h
 | (i, true) :: rest, listed, env, st, L, hB, hE, h => by
  simp only [okOrdP, if_true, Bool.and_eq_true] at hB
  obtain ⟨⟨hr, hf⟩, hB'⟩ := hB
  obtain ⟨oi, x, pos, ho, hfree, hrest⟩ := h
  rw [List.length_cons, Nat.add_right_comm]
  exact PWD.first ho (rest.length + n) listed env st L (Region.free_spec ho hf) (by simpa using hr) hfree (PWO.soundP n rest _ _ _ _ hB' hE hrest)
 | (i, false) :: rest, listed, env, st, L, hB, hE, h => by
  simp only [okOrdP, Bool.false_eq_true, if_false, Bool.and_eq_true, beq_iff_eq] at hB
  obtain ⟨hr, hB'⟩ := hB
  rw [List.length_cons, Nat.add_right_comm]
  refine ⟨fun h0 => (by rw [hr] at h0; cases h0), fun j hj => ?_⟩
  rw [hr] at hj
  simp only [List.mem_cons, List.mem_nil_iff, or_false] at hj
  subst hj
  exact StepD.mono h fun env' st' ⟨h1, h2⟩ => ⟨h1, PWO.soundP n rest _ _ _ _ hB' hE h2⟩
def atEnd (Q : Post) (env : List PV) (st : List PObj) (_ : List (Nat × Nat)) : Prop := Q .normal env st
theorem PWO.sound (ord : List (Nat × Bool)) (listed : Array Bool) (env : List PV) (st : List PObj) (L : List (Nat × Nat)) (hB : okOrd ops ord listed = true) (h : PWO P Gl B ops (atEnd Q) ord env st L) :
  PWD P Gl B ops Q ord.length listed env st L := by
 have h1 := okOrd_P ops ord listed hB
 exact PWO.soundP 0 ord listed env st L h1.1 (fun env st L hE => ⟨h1.2, hE⟩) h
def eitherOf (P : Program) (Gl : Glob) (B : Base) (ops : Array Oper) (Q : Post) (o1 o2 : List (Nat × Bool)) (env : List PV) (st : List PObj) (L : List (Nat × Nat)) : Prop :=
 PWO P Gl B ops (atEnd Q) o1 env st L ∧ PWO P Gl B ops (atEnd Q) o2 env st L
def okFork (ops : Array Oper) (ord : List (Nat × Bool)) (i : Nat) (o1 : List (Nat × Bool)) (j : Nat) (o2 : List (Nat × Bool)) (listed : Array Bool) : Bool :=
 okOrdP ops ord listed && Region.ready .any ops (endL ord listed) == [i, j] && okOrd ops o1 ((endL ord listed).setIfInBounds i true) && okOrd ops o2 ((endL ord listed).setIfInBounds j true) && o1.length == o2.length && ord.length + (o1.length + 1) == ops.size
theorem Inv.drew {A : Nat → Prop} {w : World} {β : List Nat} (hi : Inv Gl B A w β st) : Inv Gl B A { w with drawn := w.drawn + 1 } β st := by
 have hE : Ext A w A { w with drawn := w.drawn + 1 } := ⟨fun _ h => h, fun _ _ => rfl⟩
 exact ⟨hi.len, hi.inj, fun i b o h1 h2 => (hi.obj i b o h1 h2).mono hE (.refl _) rfl, hi.notA, hi.own, hi.lt, hi.new, hi.old, hi.size, hi.os, hi.tape, hi.output, hi.keep, hi.glob, hi.pre, hi.apart⟩
theorem pw_draw {id : Nat} {l : List Oper} (ord : List (Nat × Bool)) (hm : P.follows .mixedOrders = true) (hB : (ord.length == l.length && okOrd l.toArray ord (Array.replicate l.length false)) = true)
  (h : PWO P Gl B l.toArray (atEnd Q) ord env st []) : PW P Gl B (.region id l.toArray true) env st Q := fun A w β tmps hi he => by
 simp only [Bool.and_eq_true, beq_iff_eq] at hB
 obtain ⟨h2, h3⟩ := hB
 refine wp_region_any hm ?_
 have hE : Ext A w A { w with drawn := w.drawn + 1 } := ⟨fun _ h => h, fun _ _ => rfl⟩
 have := (PWO.sound ord _ _ _ _ h3 h).sound ord.length hi.drew (he.mono hE (.refl _))
 have hsz : l.toArray.size = ord.length := by simp [h2]
 rw [hsz, h2]
 exact h2 ▸ this
theorem pw_drawF {id : Nat} {l : List Oper} (ord : List (Nat × Bool)) (i : Nat) (o1 : List (Nat × Bool)) (j : Nat) (o2 : List (Nat × Bool)) (hm : P.follows .mixedOrders = true) (hB : okFork l.toArray ord i o1 j o2 (Array.replicate l.length false) = true)
  (h : PWO P Gl B l.toArray (eitherOf P Gl B l.toArray Q ((i, false) :: o1) ((j, false) :: o2)) ord env st []) : PW P Gl B (.region id l.toArray true) env st Q := fun A w β tmps hi he => by
 simp only [okFork, Bool.and_eq_true, beq_iff_eq] at hB
 obtain ⟨⟨⟨⟨⟨h1, h2⟩, h3⟩, h4⟩, h5⟩, h6⟩ := hB
 refine wp_region_any hm ?_
 have hE : Ext A w A { w with drawn := w.drawn + 1 } := ⟨fun _ h => h, fun _ _ => rfl⟩
 have := (PWO.soundP (Q := Q) (o1.length + 1) ord _ _ _ _ h1 (fun env st L hh => ?_) h).sound (ord.length + (o1.length + 1)) hi.drew (he.mono hE (.refl _))
 ·have h6' : ord.length + (o1.length + 1) = l.length := by simpa using h6
  rw [h6'] at this
  have hsz : l.toArray.size = l.length := by simp
  rw [hsz]
  exact this
 ·refine ⟨fun h0 => (by rw [h2] at h0; cases h0), fun k hk => ?_⟩
  rw [h2] at hk
  simp only [List.mem_cons, List.mem_nil_iff, or_false] at hk
  rcases hk with rfl | rfl
  ·exact StepD.mono hh.1 fun env' st' ⟨g1, g2⟩ => ⟨g1, PWO.sound _ _ _ _ _ h3 g2⟩
  ·exact StepD.mono hh.2 fun env' st' ⟨g1, g2⟩ => ⟨g1, h5 ▸ PWO.sound _ _ _ _ _ h4 g2⟩
variable {E : List PV → List PObj → List (Nat × Nat) → Prop}
def lockOf (_st : List PObj) (env : List PV) : Op → Option Nat
 | .load _ x => match pe env x with
  | .ptr i _ => some i
  | _ => none
 | _ => none
theorem pe_agree {env env' : List PV} {x : Operand} (h : ∀ t, x = .tmp t → env'[t]? = env[t]?) : pe env' x = pe env x := by
 cases x with
 | tmp t => simp only [pe, h t rfl]
 | _ => rfl
theorem pureOp_agree {st' : List PObj} {env' : List PV} {op : Op} {x : PV} (h : pureOp tys st env op = some x) (he : ∀ t, Operand.tmp t ∈ op.operands.toList → env'[t]? = env[t]?)
  (hl : ∀ p, lockOf st env op = some p → st'[p]? = st[p]?) : pureOp tys st' env' op = some x := by
 have ag : ∀ y, y ∈ op.operands.toList → pe env' y = pe env y := fun y hy => pe_agree fun t ht => he t (ht ▸ hy)
 cases op <;> simp only [pureOp] at h ⊢ <;> first | (cases h; done) | skip
 case move y => rw [ag y (by simp [Op.operands])]; exact h
 case assign y => rw [ag y (by simp [Op.operands])]; exact h
 case pick c a b => rw [ag c (by simp [Op.operands]), ag a (by simp [Op.operands]), ag b (by simp [Op.operands])]; exact h
 case nilCheck y => rw [ag y (by simp [Op.operands])]; exact h
 case binOp op T a b T' => rw [ag a (by simp [Op.operands]), ag b (by simp [Op.operands])]; exact h
 case unOp op T a => rw [ag a (by simp [Op.operands])]; exact h
 case fieldAddr T a f => rw [ag a (by simp [Op.operands])]; exact h
 case field T a f => rw [ag a (by simp [Op.operands])]; exact h
 case load T a =>
  rw [ag a (by simp [Op.operands])]
  simp only [lockOf] at hl
  split at h
  ·split at h
   ·rename_i hk
    rw [if_pos hk]
    split at h
    ·rename_i i off hp
     simp only [hp] at hl ⊢
     rw [hl i rfl]; exact h
    ·exact h
    ·cases h
   ·cases h
  ·cases h
 case extract a i => rw [ag a (by simp [Op.operands])]; exact h
 case makeInterface T a => rw [ag a (by simp [Op.operands])]; exact h
 case makeFunc f first caps =>
  rw [List.map_congr_left (l := first.toList) (fun y hy => ag y (by simp [Op.operands]; left; simpa using hy)), List.map_congr_left (l := caps.toList) (fun y hy => ag y (by simp [Op.operands]; right; simpa using hy))]; exact h
 case call c =>
  rw [List.map_congr_left (fun y hy => ag y (by simp only [Op.operands, Call.operands, Array.toList_append, List.mem_append]; right; exact hy))]; exact h
 case build T parts =>
  rw [List.map_congr_left (g := fun p => (p.1, pe env p.2)) (fun y hy => by rw [ag y.2 (by simp only [Op.operands]; exact List.mem_map_of_mem hy)])]; exact h
def freeStep (tys : List TI) (ops : Array Oper) (st : List PObj) (i : Nat) (env : List PV) (L : List (Nat × Nat)) : Option (List PV × List (Nat × Nat)) :=
 match ops[i]? with
 | none => none
 | some o => match o.guard with
  | none => match pureOp tys st env o.op with
   | some x => x.force fun x => match o.dst with
    | some d => forceL (env.set d x) fun e => some (e, match lockOf st env o.op with | some p => (i, p) :: L | none => L)
    | none => none
   | none => none
  | some (j, want) => match guardE ops env j with
   | some (some b) => match b == want with
    | true => match pureOp tys st env o.op with
     | some x => x.force fun x => match o.dst with
      | some d => forceL (env.set d x) fun e => some (e, match lockOf st env o.op with | some p => (i, p) :: L | none => L)
      | none => none
     | none => none
    | false => match o.dst with
     | some d => forceL (env.set d (.tup [])) fun e => some (e, L)
     | none => none
   | some none => match o.dst with
    | some d => forceL (env.set d (.tup [])) fun e => some (e, L)
    | none => none
   | none => none
theorem po_free {rest : List (Nat × Bool)} {i : Nat} {env' : List PV} {L L' : List (Nat × Nat)} (hT : Tys P tys) (h : freeStep tys ops st i env L = some (env', L')) (hr : PWO P Gl B ops E rest env' st L') :
  PWO P Gl B ops E ((i, true) :: rest) env st L := by
 unfold freeStep at h
 split at h
 ·cases h
 ·rename_i o ho
  have val : ∀ x, pureOp tys st env o.op = some x → ∀ st', (∀ p, lockOf st env o.op = some p → st'[p]? = st[p]?) → OpP P Gl B o (maskE (o.looksAt ops) 0 env) st' fun y s => y = x ∧ s = st' := by
   intro x hx st' e2
   refine op_val (fun A w β tmps hi he => pureOp_sound hT (pureOp_agree hx (fun t ht => ?_) e2) hi he) ⟨rfl, rfl⟩
   have hm : t ∈ o.looksAt ops := List.mem_append_left _ (List.mem_filterMap.2 ⟨.tmp t, ht, rfl⟩)
   rw [maskE_get, Nat.zero_add]
   have : (o.looksAt ops).contains t = true := by simpa using hm
   rw [this]
   cases env[t]? <;> rfl
  have lk : ∀ (l : Option Nat), (match l with | some p => (i, p) :: L | none => L) = (l.toList.map fun p => (i, p)) ++ L := fun l => by cases l <;> rfl
  split at h
  ·rename_i hg
   split at h
   ·rename_i x hx
    rw [PV.force_eq] at h
    split at h
    ·rename_i d hd
     rw [forceL_eq] at h
     cases h
     refine ⟨o, x, lockOf st env o.op, ho, ?_, ?_⟩
     ·unfold Free
      simp only [hg]
      exact val x hx
     ·simp only [putE, hd]
      rw [← lk]
      exact hr
    ·cases h
   ·cases h
  ·rename_i j want hg
   split at h
   ·rename_i b hy
    split at h
    ·rename_i hb
     have hb' : b = want := by simpa using hb
     split at h
     ·rename_i x hx
      rw [PV.force_eq] at h
      split at h
      ·rename_i d hd
       rw [forceL_eq] at h
       cases h
       refine ⟨o, x, lockOf st env o.op, ho, ?_, ?_⟩
       ·unfold Free
        simp only [hg]
        exact ⟨some b, hy, fun _ => val x hx, fun hne => absurd (congrArg some hb') hne⟩
       ·simp only [putE, hd]
        rw [← lk]
        exact hr
      ·cases h
     ·cases h
    ·rename_i hb
     have hb' : b ≠ want := by simpa using hb
     split at h
     ·rename_i d hd
      rw [forceL_eq] at h
      cases h
      refine ⟨o, .tup [], none, ho, ?_, ?_⟩
      ·unfold Free
       simp only [hg]
       exact ⟨some b, hy, fun he => absurd (Option.some.inj he) hb', fun _ => trivial⟩
      ·simp only [putE, hd]
       exact hr
     ·cases h
   ·rename_i hy
    split at h
    ·rename_i d hd
     rw [forceL_eq] at h
     cases h
     refine ⟨o, .tup [], none, ho, ?_, ?_⟩
     ·unfold Free
      simp only [hg]
      exact ⟨none, hy, (fun he => by cases he), fun _ => trivial⟩
     ·simp only [putE, hd]
      exact hr
    ·cases h
   ·cases h
theorem po_step {rest : List (Nat × Bool)} {i : Nat} {L : List (Nat × Nat)} {oi : Oper} (ho : ops[i]? = some oi) (hg : oi.guard = none)
  (h : OpP P Gl B oi (maskE (oi.looksAt ops) 0 env) st fun x st' => LOK ops i st st' L ∧ PWO P Gl B ops E rest (putE env oi.dst x) st' L) : PWO P Gl B ops E ((i, false) :: rest) env st L := by
 unfold PWO StepD
 simp only [ho, hg]
 exact h
theorem po_on {rest : List (Nat × Bool)} {i j : Nat} {want : Bool} {L : List (Nat × Nat)} {oi : Oper} (ho : ops[i]? = some oi) (hg : oi.guard = some (j, want)) (hy : yieldE ops env j = some want)
  (h : OpP P Gl B oi (maskE (oi.looksAt ops) 0 env) st fun x st' => LOK ops i st st' L ∧ PWO P Gl B ops E rest (putE env oi.dst x) st' L) : PWO P Gl B ops E ((i, false) :: rest) env st L := by
 unfold PWO StepD
 simp only [ho, hg]
 exact ⟨some want, guardE_yield hy, fun _ => h, fun hne => (hne rfl).elim⟩
theorem po_off {rest : List (Nat × Bool)} {i j : Nat} {want b : Bool} {L : List (Nat × Nat)} {oi : Oper} (ho : ops[i]? = some oi) (hg : oi.guard = some (j, want)) (hy : yieldE ops env j = some b) (hb : b ≠ want)
  (h : PWO P Gl B ops E rest (putE env oi.dst (.tup [])) st L) : PWO P Gl B ops E ((i, false) :: rest) env st L := by
 unfold PWO StepD
 simp only [ho, hg]
 exact ⟨some b, guardE_yield hy, fun he => absurd (Option.some.inj he) hb, fun _ => ⟨LOK.refl _ _ _, h⟩⟩
theorem po_offN {rest : List (Nat × Bool)} {i j : Nat} {want : Bool} {L : List (Nat × Nat)} {oi : Oper} (ho : ops[i]? = some oi) (hg : oi.guard = some (j, want)) (hy : guardE ops env j = some none)
  (h : PWO P Gl B ops E rest (putE env oi.dst (.tup [])) st L) : PWO P Gl B ops E ((i, false) :: rest) env st L := by
 unfold PWO StepD
 simp only [ho, hg]
 exact ⟨none, hy, (fun he => by cases he), fun _ => ⟨LOK.refl _ _ _, h⟩⟩
theorem po_val {rest : List (Nat × Bool)} {i : Nat} {L : List (Nat × Nat)} {oi : Oper} {x : PV} (ho : ops[i]? = some oi) (hg : oi.guard = none) (hv : OpV P Gl B oi (maskE (oi.looksAt ops) 0 env) x)
  (hr : PWO P Gl B ops E rest (putE env oi.dst x) st L) : PWO P Gl B ops E ((i, true) :: rest) env st L := by
 refine ⟨oi, x, none, ho, ?_, hr⟩
 unfold Free
 simp only [hg]
 exact fun st' _ => op_of hv ⟨rfl, rfl⟩
theorem po_gval {rest : List (Nat × Bool)} {i j : Nat} {want : Bool} {L : List (Nat × Nat)} {oi : Oper} {x : PV} (ho : ops[i]? = some oi) (hg : oi.guard = some (j, want)) (hy : yieldE ops env j = some want)
  (hv : OpV P Gl B oi (maskE (oi.looksAt ops) 0 env) x) (hr : PWO P Gl B ops E rest (putE env oi.dst x) st L) : PWO P Gl B ops E ((i, true) :: rest) env st L := by
 refine ⟨oi, x, none, ho, ?_, hr⟩
 unfold Free
 simp only [hg]
 exact ⟨some want, guardE_yield hy, fun _ st' _ => op_of hv ⟨rfl, rfl⟩, fun hne => (hne rfl).elim⟩
theorem po_make {rest : List (Nat × Bool)} {i : Nat} {L : List (Nat × Nat)} {oi : Oper} {x : PV} (ho : ops[i]? = some oi) (hg : oi.guard = none)
  (hv : ∀ st' (K : PV → List PObj → Prop), K x st' → OpP P Gl B oi (maskE (oi.looksAt ops) 0 env) st' K)
  (hr : PWO P Gl B ops E rest (putE env oi.dst x) st L) : PWO P Gl B ops E ((i, true) :: rest) env st L := by
 refine ⟨oi, x, none, ho, ?_, hr⟩
 unfold Free
 simp only [hg]
 exact fun st' _ => hv st' _ ⟨rfl, rfl⟩
theorem po_nil {L : List (Nat × Nat)} (h : E env st L) : PWO P Gl B ops E [] env st L := by
 unfold PWO; exact h
theorem po_norm {ord : List (Nat × Bool)} {L : List (Nat × Nat)} {env' : List PV} {st' : List PObj} (h : (forceL env fun e => forceSt st fun s => some (e, s)) = some (env', st')) (hr : PWO P Gl B ops E ord env' st' L) : PWO P Gl B ops E ord env st L := by
 rw [forceL_eq, forceSt_eq] at h
 cases h
 exact hr
theorem po_normE {ord : List (Nat × Bool)} {L : List (Nat × Nat)} {env' : List PV} (h : (forceL env fun e => (e, ())) = (env', ())) (hr : PWO P Gl B ops E ord env' st L) : PWO P Gl B ops E ord env st L := by
 rw [forceL_eq] at h
 cases h
 exact hr
end draw
end Go.Pw
