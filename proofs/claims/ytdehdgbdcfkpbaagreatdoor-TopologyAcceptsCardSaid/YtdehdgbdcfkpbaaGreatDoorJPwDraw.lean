/-
  Regions whose order is open: one order serves for all, if pure operations read nothing that another operation of the region may write before them.
  Arrays of the function's own: made, appended to, read, written, given up.
  Appending, and what becomes of arrays: moved, given up, lent.
  Arrays of the function's own become rows that never change; a function's contract.
  Calls that may be handed arrays of the caller's own: these stand behind the call at new numbers.
  Parts of a region; both ways of a test inside a region, joined again.
  Functions that look at no object of the caller's.
-/
import Derived.Test.YtdehdgbdcfkpbaaGreatDoorJPwCore
import Derived.Still
namespace Go.Pw
open Go

section draw
variable {P : Program} {Gl : Glob} {B : Base} {tys : List TI} {env : List PV} {st : List PObj} {Q : Post} {ops : Array Oper} {o : Oper}

/-- What stands in the slots that an operation looks at, and nothing else. -/
def maskE (l : List Tmp) : Nat → List PV → List PV
  | _, [] => []
  | i, x :: xs => (if l.contains i then x else .any) :: maskE l (i + 1) xs
theorem maskE_get (l : List Tmp) : ∀ (env : List PV) (k i : Nat), (maskE l k env)[i]? = (env[i]?).map fun x => if l.contains (k + i) then x else .any
  | [], k, i => by simp [maskE]
  | x :: env, k, 0 => by simp [maskE]
  | x :: env, k, i + 1 => by
    simp only [maskE, List.getElem?_cons_succ, maskE_get l env (k + 1) i]
    rw [show k + 1 + i = k + (i + 1) by omega]
theorem maskE_len (l : List Tmp) : ∀ (env : List PV) (k : Nat), (maskE l k env).length = env.length
  | [], _ => rfl
  | _ :: env, k => by simp [maskE, maskE_len l env (k + 1)]

theorem EnvRel.mask {A : Nat → Prop} {w : World} {β : List Nat} {tmps : List Value} {env' : List PV} (h : EnvRel A w β env' tmps) (l : List Tmp) (hl : env'.length = env.length) (ha : ∀ t ∈ l, env'[t]? = env[t]?) :
    EnvRel A w β (maskE l 0 env) tmps := by
  refine ⟨by rw [maskE_len, ← hl]; exact h.1, fun i p v hp hv => ?_⟩
  rw [maskE_get, Nat.zero_add] at hp
  cases hx : env[i]? with
  | none => rw [hx] at hp; cases hp
  | some x =>
    rw [hx] at hp
    simp only [Option.map_some] at hp
    cases hp
    split
    · rename_i hc
      exact h.2 i x v ((ha i (by simpa using hc)).trans hx) hv
    · exact .any ..

theorem maskE_agree {env env' : List PV} (l : List Tmp) (hl : env'.length = env.length) (ha : ∀ t ∈ l, env'[t]? = env[t]?) : maskE l 0 env' = maskE l 0 env := by
  apply List.ext_getElem?
  intro i
  rw [maskE_get, maskE_get, Nat.zero_add]
  by_cases hi : l.contains i = true
  · rw [ha i (by simpa using hi)]
  · simp only [hi, Bool.false_eq_true, if_false]
    by_cases hlt : i < env.length
    · rw [List.getElem?_eq_getElem hlt, List.getElem?_eq_getElem (hl ▸ hlt)]; rfl
    · rw [List.getElem?_eq_none (by omega), List.getElem?_eq_none (by omega)]

/-- What the guard of an operation says: whether its operation ran, and what it yielded. -/
def guardE (ops : Array Oper) (env : List PV) (j : Nat) : Option (Option Bool) :=
  match ((ops[j]?).bind (·.dst)).bind (env[·]?) with
  | some (.bool b) => some (some b)
  | some (.tup []) => some none
  | _ => none
theorem guardE_yield {ops : Array Oper} {env : List PV} {j : Nat} {b : Bool} (h : yieldE ops env j = some b) : guardE ops env j = some (some b) := by
  unfold yieldE at h
  unfold guardE
  split at h
  · rename_i hb; cases h; rw [hb]
  · cases h
theorem guardE_of {A : Nat → Prop} {w : World} {β : List Nat} {tmps : List Value} (he : EnvRel A w β env tmps) {j : Nat} {y : Option Bool} (h : guardE ops env j = some y) : yielded ops tmps.toArray j = y := by
  unfold guardE at h
  split at h
  · rename_i b hb
    cases h
    exact yield_of he (by unfold yieldE; rw [hb])
  · rename_i hb
    cases h
    exact noYield_of he (by unfold noYield; rw [hb])
  · cases h
/-- Operation i comes up. -/
def StepD (P : Program) (Gl : Glob) (B : Base) (ops : Array Oper) (i : Nat) (env : List PV) (st : List PObj) (K : List PV → List PObj → Prop) : Prop :=
  match ops[i]? with
  | none => K env st
  | some o => match o.guard with
    | none => OpP P Gl B o (maskE (o.looksAt ops) 0 env) st fun x st' => K (putE env o.dst x) st'
    | some (j, want) => ∃ b, guardE ops env j = some b ∧ ((b = some want → OpP P Gl B o (maskE (o.looksAt ops) 0 env) st fun x st' => K (putE env o.dst x) st') ∧ (b ≠ some want → K (putE env o.dst (.tup [])) st))

def waits (ops : Array Oper) (j k : Nat) : Bool :=
  match ops[j]? with
  | some o => o.after.any fun e => Region.binds .any e && e.on == k
  | none => false

/-- Behind operation j the objects that others have looked at are as they were (but for those operations that j waits for). -/
def LOK (ops : Array Oper) (j : Nat) (st st' : List PObj) : List (Nat × Nat) → Prop
  | [] => True
  | (k, pos) :: L => (waits ops j k = true ∨ st'[pos]? = st[pos]?) ∧ LOK ops j st st' L

theorem LOK.mem {j : Nat} {st st' : List PObj} : ∀ {L : List (Nat × Nat)}, LOK ops j st st' L → ∀ k pos, (k, pos) ∈ L → waits ops j k = true ∨ st'[pos]? = st[pos]?
  | [], _, k, pos, h => by cases h
  | (k', pos') :: L, ⟨h1, h2⟩, k, pos, h => by
    rcases List.mem_cons.1 h with h | h
    · cases h; exact h1
    · exact h2.mem k pos h
theorem LOK.refl (j : Nat) (st : List PObj) : ∀ (L : List (Nat × Nat)), LOK ops j st st L
  | [] => trivial
  | (_k, _pos) :: L => ⟨.inr rfl, LOK.refl j st L⟩
theorem LOK.of {j : Nat} {st st' : List PObj} : ∀ {L : List (Nat × Nat)}, (∀ k pos, (k, pos) ∈ L → waits ops j k = true ∨ st'[pos]? = st[pos]?) → LOK ops j st st' L
  | [], _ => trivial
  | (k, pos) :: L, h => ⟨h k pos (by simp), LOK.of fun k' pos' hm => h k' pos' (by simp [hm])⟩

def PWD (P : Program) (Gl : Glob) (B : Base) (ops : Array Oper) (Q : Post) : Nat → Array Bool → List PV → List PObj → List (Nat × Nat) → Prop
  | 0, listed, env, st, _ => Region.ready .any ops listed = [] ∧ Q .normal env st
  | n + 1, listed, env, st, L => (Region.ready .any ops listed = [] → Q .normal env st) ∧
    ∀ i ∈ Region.ready .any ops listed, StepD P Gl B ops i env st fun env' st' => LOK ops i st st' L ∧ PWD P Gl B ops Q n (listed.setIfInBounds i true) env' st' L

theorem StepD.mono {i : Nat} {K K' : List PV → List PObj → Prop} (h : StepD P Gl B ops i env st K) (hk : ∀ e s, K e s → K' e s) : StepD P Gl B ops i env st K' := by
  have op : ∀ (o : Oper) (env : List PV), OpP P Gl B o (maskE (o.looksAt ops) 0 env) st (fun x st' => K (putE env o.dst x) st') → OpP P Gl B o (maskE (o.looksAt ops) 0 env) st (fun x st' => K' (putE env o.dst x) st') := by
    intro o env h A w β tmps Qx hi he
    refine Oper.wp_mono ?_ (h A w β tmps Qx hi he)
    rintro a' w' ⟨v, x, st', A', β', h1, h2, h3⟩
    exact ⟨v, x, st', A', β', h1, hk _ _ h2, h3⟩
  unfold StepD at h ⊢
  cases ho : ops[i]? with
  | none => simp only [ho] at h ⊢; exact hk _ _ h
  | some o =>
    simp only [ho] at h ⊢
    cases hg : o.guard with
    | none => simp only [hg] at h ⊢; exact op o env h
    | some g =>
      obtain ⟨j, want⟩ := g
      simp only [hg] at h ⊢
      obtain ⟨b, h1, h2, h3⟩ := h
      exact ⟨b, h1, fun hb => op o env (h2 hb), fun hb => hk _ _ (h3 hb)⟩

theorem PWD.drop : ∀ (n : Nat) {listed : Array Bool} {env : List PV} {st : List PObj} {L : List (Nat × Nat)} {x : Nat × Nat}, PWD P Gl B ops Q n listed env st (x :: L) → PWD P Gl B ops Q n listed env st L
  | 0, _, _, _, _, _, h => h
  | n + 1, _, _, _, _, _, h => ⟨h.1, fun i hi => (h.2 i hi).mono fun _ _ ⟨h1, h2⟩ => ⟨h1.2, PWD.drop n h2⟩⟩

theorem StepD.sound {i : Nat} {K : List PV → List PObj → Prop} (h : StepD P Gl B ops i env st K) {F : Act → World → Prop} {A : Nat → Prop} {w : World} {β : List Nat} {tmps : List Value}
    (hi : Inv Gl B A w β st) (he : EnvRel A w β env tmps)
    (hF : ∀ env' st' A' w' β' tmps', K env' st' → Inv Gl B A' w' β' st' → EnvRel A' w' β' env' tmps' → Ext A w A' w' → Pre β β' → F ⟨tmps'.toArray, []⟩ w') (Q' : Exit → Act → World → Prop) :
    wpOp P ops Q' i F ⟨tmps.toArray, []⟩ w := by
  have op : ∀ (o : Oper), OpP P Gl B o (maskE (o.looksAt ops) 0 env) st (fun x st' => K (putE env o.dst x) st') → o.wp P ⟨tmps.toArray, []⟩ w F Q' := by
    intro o h
    refine Oper.wp_mono ?_ (h A w β tmps Q' hi (he.mask _ rfl (fun _ _ => rfl)))
    rintro a' w' ⟨v, x, st', A', β', rfl, h2, h3, h4, h5, h6⟩
    rw [put_tmps]
    exact hF _ _ _ _ _ _ h2 h4 ((he.mono h5 h6).put o.dst h3) h5 h6
  unfold StepD at h
  unfold wpOp
  cases ho : ops[i]? with
  | none => simp only [ho] at h ⊢; exact hF _ _ _ _ _ _ h hi he (.refl _ _) (.refl _)
  | some o =>
    simp only [ho] at h ⊢
    cases hg : o.guard with
    | none =>
      simp only [hg] at h
      rw [if_pos (by simp [Region.wanted, hg])]
      exact .inl (op o h)
    | some g =>
      obtain ⟨j, want⟩ := g
      simp only [hg] at h
      obtain ⟨b, h1, h2, h3⟩ := h
      have hy := guardE_of he h1
      by_cases hb : b = some want
      · rw [if_pos (by simp [Region.wanted, hg, hy, hb])]
        exact .inl (op o (h2 hb))
      · rw [if_neg (by simp [Region.wanted, hg, hy, hb])]
        rw [put_tmps]
        exact hF _ _ _ _ _ _ (h3 hb) hi (he.put o.dst (den_undef ..)) (.refl _ _) (.refl _)

theorem PWD.sound : ∀ (n : Nat) {listed : Array Bool} {env : List PV} {st : List PObj} {L : List (Nat × Nat)}, PWD P Gl B ops Q n listed env st L →
    ∀ {A : Nat → Prop} {w : World} {β : List Nat} {tmps : List Value}, Inv Gl B A w β st → EnvRel A w β env tmps → wpAny P .any ops (Real Gl B Q) n listed ⟨tmps.toArray, []⟩ w
  | 0, _, _, _, _, h, A, w, β, tmps, hi, he => ⟨h.1, _, _, A, β, tmps, rfl, h.2, hi, he⟩
  | n + 1, listed, env, st, L, h, A, w, β, tmps, hi, he => by
    refine ⟨fun h0 => ⟨_, _, A, β, tmps, rfl, h.1 h0, hi, he⟩, fun i hin => (h.2 i hin).sound hi he ?_ _⟩
    rintro env' st' A' w' β' tmps' ⟨_, h2⟩ hi' he' hx hp
    exact PWD.sound n h2 hi' he'

/-- An operation that yields x, whatever else has come up: its guard and operands are there, and the object that it looks at is as it was. -/
def Free (P : Program) (Gl : Glob) (B : Base) (ops : Array Oper) (o : Oper) (x : PV) (pos : Option Nat) (env : List PV) (st : List PObj) : Prop :=
  let val : Prop := ∀ st', (∀ p, pos = some p → st'[p]? = st[p]?) → OpP P Gl B o (maskE (o.looksAt ops) 0 env) st' fun y s => y = x ∧ s = st'
  match o.guard with
  | none => val
  | some (j, want) => ∃ b, guardE ops env j = some b ∧ (b = some want → val) ∧ (b ≠ some want → x = .tup [])

theorem yieldE_agree {env env' : List PV} {o : Oper} {j : Nat} {want : Bool} (hg : o.guard = some (j, want)) (he : ∀ t ∈ o.looksAt ops, env'[t]? = env[t]?) : guardE ops env' j = guardE ops env j := by
  unfold guardE
  cases hd : (ops[j]?).bind (·.dst) with
  | none => rfl
  | some u =>
    simp only [Option.bind_some]
    rw [he u (by simp [Oper.looksAt, hg, hd])]

theorem Free.agree {x : PV} {pos : Option Nat} (h : Free P Gl B ops o x pos env st) {env' : List PV} {st' : List PObj} (hl : env'.length = env.length) (ha : ∀ t ∈ o.looksAt ops, env'[t]? = env[t]?)
    (hp : ∀ p, pos = some p → st'[p]? = st[p]?) : Free P Gl B ops o x pos env' st' := by
  unfold Free at h ⊢
  rw [maskE_agree _ hl ha]
  cases hg : o.guard with
  | none => simp only [hg] at h ⊢; exact fun s hs => h s fun p hpp => (hs p hpp).trans (hp p hpp)
  | some g =>
    obtain ⟨j, want⟩ := g
    simp only [hg] at h ⊢
    obtain ⟨b, h1, h2, h3⟩ := h
    exact ⟨b, (yieldE_agree hg ha).trans h1, fun hb s hs => h2 hb s fun p hpp => (hs p hpp).trans (hp p hpp), h3⟩

theorem OpP.mono' {K K' : PV → List PObj → Prop} (h : OpP P Gl B o env st K) (hk : ∀ x s, K x s → K' x s) : OpP P Gl B o env st K' := by
  intro A w β tmps Qx hi he
  refine Oper.wp_mono ?_ (h A w β tmps Qx hi he)
  rintro a' w' ⟨v, x, st', A', β', h1, h2, h3⟩
  exact ⟨v, x, st', A', β', h1, hk _ _ h2, h3⟩

theorem Free.step {x : PV} {pos : Option Nat} {i : Nat} (hi : ops[i]? = some o) (h : Free P Gl B ops o x pos env st) {K : List PV → List PObj → Prop} (hK : K (putE env o.dst x) st) : StepD P Gl B ops i env st K := by
  unfold StepD
  unfold Free at h
  simp only [hi]
  cases hg : o.guard with
  | none => simp only [hg] at h ⊢; exact (h st fun _ _ => rfl).mono' fun y s hh => by rw [hh.1, hh.2]; exact hK
  | some g =>
    obtain ⟨j, want⟩ := g
    simp only [hg] at h ⊢
    obtain ⟨b, h1, h2, h3⟩ := h
    exact ⟨b, h1, fun hb => (h2 hb st fun _ _ => rfl).mono' fun y s hh => by rw [hh.1, hh.2]; exact hK, fun hb => by rw [h3 hb] at hK; exact hK⟩

theorem putE_get {env : List PV} {d : Option Tmp} {x : PV} {t : Nat} (h : ∀ e, d = some e → t ≠ e) : (putE env d x)[t]? = env[t]? := by
  cases d with
  | none => rfl
  | some e => simp only [putE]; rw [List.getElem?_set, if_neg (fun hh => h e rfl hh.symm)]
theorem putE_len {env : List PV} {d : Option Tmp} {x : PV} : (putE env d x).length = env.length := by cases d <;> simp [putE]
theorem putE_comm {env : List PV} {d e : Option Tmp} {x y : PV} (h : ∀ t, d = some t → e ≠ some t) : putE (putE env d x) e y = putE (putE env e y) d x := by
  cases d with
  | none => rfl
  | some t => cases e with
    | none => rfl
    | some u => simp only [putE]; exact List.set_comm _ _ (fun hh => h t rfl (by rw [hh]))

theorem yieldE_put {d : Option Tmp} {x : PV} {j : Nat} (h : ∀ t, d = some t → ((ops[j]?).bind (·.dst)) ≠ some t) : guardE ops (putE env d x) j = guardE ops env j := by
  unfold guardE
  cases hd : (ops[j]?).bind (·.dst) with
  | none => rfl
  | some u =>
    simp only [Option.bind_some]
    rw [putE_get (fun e he hu => h e he (by rw [hd, hu]))]

theorem StepD.unput {j : Nat} {oj : Oper} {d : Option Tmp} {x : PV} {K : List PV → List PObj → Prop} (hj : ops[j]? = some oj) (hd : ∀ t, d = some t → t ∉ oj.looksAt ops) (hdd : ∀ t, d = some t → oj.dst ≠ some t)
    (h : StepD P Gl B ops j (putE env d x) st K) : StepD P Gl B ops j env st fun env' st' => K (putE env' d x) st' := by
  have hm : maskE (oj.looksAt ops) 0 (putE env d x) = maskE (oj.looksAt ops) 0 env := maskE_agree _ putE_len fun t ht => putE_get fun e he hte => hd e he (hte ▸ ht)
  unfold StepD at h ⊢
  simp only [hj, hm] at h ⊢
  have cm : ∀ y : PV, putE (putE env d x) oj.dst y = putE (putE env oj.dst y) d x := fun y => putE_comm hdd
  cases hg : oj.guard with
  | none =>
    simp only [hg] at h ⊢
    simpa only [cm] using h
  | some g =>
    obtain ⟨k, want⟩ := g
    simp only [hg] at h ⊢
    obtain ⟨b, h1, h2, h3⟩ := h
    refine ⟨b, ?_, fun hb => ?_, fun hb => ?_⟩
    · rw [← h1]
      refine (yieldE_put fun t ht hh => hd t ht ?_).symm
      simp [Oper.looksAt, hg, hh]
    · have := h2 hb
      simpa only [cm] using this
    · have := h3 hb
      rwa [cm] at this

/-- A free operation may be taken first. -/
theorem PWD.first {i : Nat} {oi : Oper} {x : PV} {pos : Option Nat} (hi : ops[i]? = some oi) :
    ∀ (n : Nat) (listed : Array Bool) (env : List PV) (st : List PObj) (L : List (Nat × Nat)),
      (∀ j oj, ops[j]? = some oj → j ≠ i → listed.getD j true = false → (∀ e ∈ oj.after, Region.binds .any e = true → e.on ≠ i) → oi.apart ops oj = true) →
      i ∈ Region.ready .any ops listed → Free P Gl B ops oi x pos env st →
      PWD P Gl B ops Q n (listed.setIfInBounds i true) (putE env oi.dst x) st ((pos.toList.map fun p => (i, p)) ++ L) → PWD P Gl B ops Q (n + 1) listed env st L := by
  have dropL : ∀ n listed env st L, PWD P Gl B ops Q n listed env st ((pos.toList.map fun p => (i, p)) ++ L) → PWD P Gl B ops Q n listed env st L := by
    intro n listed env st L h
    cases pos with
    | none => exact h
    | some p => exact PWD.drop n h
  intro n
  induction n with
  | zero =>
    intro listed env st L _ hr hf H
    refine ⟨fun h => (by rw [h] at hr; cases hr), fun j hj => ?_⟩
    by_cases hji : j = i
    · subst hji
      exact hf.step hi ⟨LOK.refl _ _ _, dropL _ _ _ _ _ H⟩
    · have := ready_mono hj hji
      rw [H.1] at this
      cases this
  | succ n ih =>
    intro listed env st L hfree hr hf H
    refine ⟨fun h => (by rw [h] at hr; cases hr), fun j hj => ?_⟩
    by_cases hji : j = i
    · subst hji
      exact hf.step hi ⟨LOK.refl _ _ _, dropL _ _ _ _ _ H⟩
    · have h1 := H.2 j (ready_mono hj hji)
      obtain ⟨hjun, oj, hoj, hall⟩ := mem_ready.1 hj
      have hnot : ∀ e ∈ oj.after, Region.binds .any e = true → e.on ≠ i := fun e he hb heq => by
        have h1 := hall e he hb
        have h0 := (mem_ready.1 hr).1
        rw [heq] at h1
        rcases Nat.lt_or_ge i listed.size with h' | h'
        · simp [h'] at h0 h1; rw [h0] at h1; cases h1
        · simp [Array.getElem?_eq_none h'] at h1
      have hap := hfree j oj hoj hji hjun hnot
      obtain ⟨a1, a2, a3⟩ := Oper.apart_spec hap
      have hnw : waits ops j i = false := by
        unfold waits
        simp only [hoj]
        rw [Bool.eq_false_iff]
        intro ht
        rw [Array.any_eq_true'] at ht
        obtain ⟨e, hm, he⟩ := ht
        simp only [Bool.and_eq_true, beq_iff_eq] at he
        exact hnot e hm he.1 he.2
      have h2 := StepD.unput (d := oi.dst) (x := x) hoj a1 a2 h1
      have hfree' : ∀ k ok, ops[k]? = some ok → k ≠ i → (listed.setIfInBounds j true).getD k true = false →
          (∀ e ∈ ok.after, Region.binds .any e = true → e.on ≠ i) → oi.apart ops ok = true := fun k ok hk hki hun hno => by
        refine hfree k ok hk hki ?_ hno
        by_cases hjk : j = k
        · subst hjk; exact hjun
        · rw [getD_set_ne true hjk] at hun; exact hun
      -- what j leaves in the frame: the slots that i looks at are as they were
      have keep : StepD P Gl B ops j env st fun env' st' => (env'.length = env.length ∧ ∀ t ∈ oi.looksAt ops, env'[t]? = env[t]?) ∧
          (LOK ops j st st' ((pos.toList.map fun p => (i, p)) ++ L) ∧ PWD P Gl B ops Q n ((listed.setIfInBounds i true).setIfInBounds j true) (putE env' oi.dst x) st' ((pos.toList.map fun p => (i, p)) ++ L)) := by
        have put : ∀ y : PV, (putE env oj.dst y).length = env.length ∧ ∀ t ∈ oi.looksAt ops, (putE env oj.dst y)[t]? = env[t]? := fun y =>
          ⟨putE_len, fun t ht => putE_get fun e he hte => a3 e he (hte ▸ ht)⟩
        unfold StepD at h2 ⊢
        simp only [hoj] at h2 ⊢
        have op : OpP P Gl B oj (maskE (oj.looksAt ops) 0 env) st (fun y st' => LOK ops j st st' ((pos.toList.map fun p => (i, p)) ++ L) ∧ PWD P Gl B ops Q n ((listed.setIfInBounds i true).setIfInBounds j true) (putE (putE env oj.dst y) oi.dst x) st' ((pos.toList.map fun p => (i, p)) ++ L)) →
            OpP P Gl B oj (maskE (oj.looksAt ops) 0 env) st (fun y st' => ((putE env oj.dst y).length = env.length ∧ ∀ t ∈ oi.looksAt ops, (putE env oj.dst y)[t]? = env[t]?) ∧
              (LOK ops j st st' ((pos.toList.map fun p => (i, p)) ++ L) ∧ PWD P Gl B ops Q n ((listed.setIfInBounds i true).setIfInBounds j true) (putE (putE env oj.dst y) oi.dst x) st' ((pos.toList.map fun p => (i, p)) ++ L))) := by
          intro h A w β tmps Qx hi he
          refine Oper.wp_mono ?_ (h A w β tmps Qx hi he)
          rintro a' w' ⟨v, y, st', A', β', g1, g2, g3⟩
          exact ⟨v, y, st', A', β', g1, ⟨put y, g2⟩, g3⟩
        cases hg : oj.guard with
        | none => simp only [hg] at h2 ⊢; exact op h2
        | some g =>
          obtain ⟨k, want⟩ := g
          simp only [hg] at h2 ⊢
          obtain ⟨b, g1, g2, g3⟩ := h2
          exact ⟨b, g1, fun hb => op (g2 hb), fun hb => ⟨put (.tup []), g3 hb⟩⟩
      refine keep.mono ?_
      rintro env' st' ⟨⟨e1, e2⟩, hL, hp⟩
      refine ⟨LOK.of fun k p hm => hL.mem k p (List.mem_append_right _ hm), ih (listed.setIfInBounds j true) env' st' L hfree' (ready_mono hr (Ne.symm hji)) ?_ ?_⟩
      · refine hf.agree e1 e2 fun p hpp => ?_
        rcases hL.mem i p (List.mem_append_left _ (by simp [hpp])) with h | h
        · rw [hnw] at h; cases h
        · exact h
      · rw [Array.setIfInBounds_comm _ _ hji]
        exact hp

/-- One order of the operations, each with a mark: free (it may be taken first), or the only one that may come up. -/
def okOrd (ops : Array Oper) : List (Nat × Bool) → Array Bool → Bool
  | [], listed => (Region.ready .any ops listed).isEmpty
  | (i, fr) :: rest, listed => (if fr then (Region.ready .any ops listed).contains i && Region.free .any ops listed i else Region.ready .any ops listed == [i]) && okOrd ops rest (listed.setIfInBounds i true)

/-- What an order may hold, its end left open. -/
def okOrdP (ops : Array Oper) : List (Nat × Bool) → Array Bool → Bool
  | [], _ => true
  | (i, fr) :: rest, listed => (if fr then (Region.ready .any ops listed).contains i && Region.free .any ops listed i else Region.ready .any ops listed == [i]) && okOrdP ops rest (listed.setIfInBounds i true)
def endL : List (Nat × Bool) → Array Bool → Array Bool
  | [], listed => listed
  | (i, _) :: rest, listed => endL rest (listed.setIfInBounds i true)
theorem okOrd_P (ops : Array Oper) : ∀ (ord : List (Nat × Bool)) (listed : Array Bool), okOrd ops ord listed = true → okOrdP ops ord listed = true ∧ Region.ready .any ops (endL ord listed) = []
  | [], listed, h => ⟨rfl, by simpa [okOrd, endL] using h⟩
  | (i, fr) :: rest, listed, h => by
    simp only [okOrd, Bool.and_eq_true] at h
    have := okOrd_P ops rest _ h.2
    exact ⟨by simp only [okOrdP, Bool.and_eq_true]; exact ⟨h.1, this.1⟩, this.2⟩
/-- The walk in that order; E: what is to hold at its end. -/
def PWO (P : Program) (Gl : Glob) (B : Base) (ops : Array Oper) (E : List PV → List PObj → List (Nat × Nat) → Prop) : List (Nat × Bool) → List PV → List PObj → List (Nat × Nat) → Prop
  | [], env, st, L => E env st L
  | (i, true) :: rest, env, st, L => ∃ oi x pos, ops[i]? = some oi ∧ Free P Gl B ops oi x pos env st ∧ PWO P Gl B ops E rest (putE env oi.dst x) st ((pos.toList.map fun p => (i, p)) ++ L)
  | (i, false) :: rest, env, st, L => StepD P Gl B ops i env st fun env' st' => LOK ops i st st' L ∧ PWO P Gl B ops E rest env' st' L

theorem PWO.soundP {E : List PV → List PObj → List (Nat × Nat) → Prop} (n : Nat) : ∀ (ord : List (Nat × Bool)) (listed : Array Bool) (env : List PV) (st : List PObj) (L : List (Nat × Nat)), okOrdP ops ord listed = true →
    (∀ env st L, E env st L → PWD P Gl B ops Q n (endL ord listed) env st L) → PWO P Gl B ops E ord env st L → PWD P Gl B ops Q (ord.length + n) listed env st L
  | [], listed, env, st, L, _, hE, h => by rw [List.length_nil, Nat.zero_add]; exact hE env st L h
  | (i, true) :: rest, listed, env, st, L, hB, hE, h => by
    simp only [okOrdP, if_true, Bool.and_eq_true] at hB
    obtain ⟨⟨hr, hf⟩, hB'⟩ := hB
    obtain ⟨oi, x, pos, ho, hfree, hrest⟩ := h
    rw [List.length_cons, Nat.add_right_comm]
    exact PWD.first ho (rest.length + n) listed env st L (Region.free_spec ho hf) (by simpa using hr) hfree (PWO.soundP n rest _ _ _ _ hB' hE hrest)
  | (i, false) :: rest, listed, env, st, L, hB, hE, h => by
    simp only [okOrdP, Bool.false_eq_true, if_false, Bool.and_eq_true, beq_iff_eq] at hB
    obtain ⟨hr, hB'⟩ := hB
    rw [List.length_cons, Nat.add_right_comm]
    refine ⟨fun h0 => (by rw [hr] at h0; cases h0), fun j hj => ?_⟩
    rw [hr] at hj
    simp only [List.mem_cons, List.mem_nil_iff, or_false] at hj
    subst hj
    exact StepD.mono h fun env' st' ⟨h1, h2⟩ => ⟨h1, PWO.soundP n rest _ _ _ _ hB' hE h2⟩
/-- The end of a region. -/
def atEnd (Q : Post) (env : List PV) (st : List PObj) (_ : List (Nat × Nat)) : Prop := Q .normal env st
theorem PWO.sound (ord : List (Nat × Bool)) (listed : Array Bool) (env : List PV) (st : List PObj) (L : List (Nat × Nat)) (hB : okOrd ops ord listed = true) (h : PWO P Gl B ops (atEnd Q) ord env st L) :
    PWD P Gl B ops Q ord.length listed env st L := by
  have h1 := okOrd_P ops ord listed hB
  exact PWO.soundP 0 ord listed env st L h1.1 (fun env st L hE => ⟨h1.2, hE⟩) h
/-- Two operations may come up, in whatever order. -/
def eitherOf (P : Program) (Gl : Glob) (B : Base) (ops : Array Oper) (Q : Post) (o1 o2 : List (Nat × Bool)) (env : List PV) (st : List PObj) (L : List (Nat × Nat)) : Prop :=
  PWO P Gl B ops (atEnd Q) o1 env st L ∧ PWO P Gl B ops (atEnd Q) o2 env st L
def okFork (ops : Array Oper) (ord : List (Nat × Bool)) (i : Nat) (o1 : List (Nat × Bool)) (j : Nat) (o2 : List (Nat × Bool)) (listed : Array Bool) : Bool :=
  okOrdP ops ord listed && Region.ready .any ops (endL ord listed) == [i, j] && okOrd ops o1 ((endL ord listed).setIfInBounds i true) && okOrd ops o2 ((endL ord listed).setIfInBounds j true) && o1.length == o2.length && ord.length + (o1.length + 1) == ops.size
theorem Inv.drew {A : Nat → Prop} {w : World} {β : List Nat} (hi : Inv Gl B A w β st) : Inv Gl B A { w with drawn := w.drawn + 1 } β st := by
  have hE : Ext A w A { w with drawn := w.drawn + 1 } := ⟨fun _ h => h, fun _ _ => rfl⟩
  exact ⟨hi.len, hi.inj, fun i b o h1 h2 => (hi.obj i b o h1 h2).mono hE (.refl _) rfl, hi.notA, hi.own, hi.lt, hi.new, hi.old, hi.size, hi.os, hi.tape, hi.output, hi.keep, hi.glob, hi.pre, hi.apart⟩

theorem pw_draw {id : Nat} {l : List Oper} (ord : List (Nat × Bool)) (hm : P.follows .mixedOrders = true) (hB : (ord.length == l.length && okOrd l.toArray ord (Array.replicate l.length false)) = true)
    (h : PWO P Gl B l.toArray (atEnd Q) ord env st []) : PW P Gl B (.region id l.toArray true) env st Q := fun A w β tmps hi he => by
  simp only [Bool.and_eq_true, beq_iff_eq] at hB
  obtain ⟨h2, h3⟩ := hB
  refine wp_region_any hm ?_
  have hE : Ext A w A { w with drawn := w.drawn + 1 } := ⟨fun _ h => h, fun _ _ => rfl⟩
  have := (PWO.sound ord _ _ _ _ h3 h).sound ord.length hi.drew (he.mono hE (.refl _))
  have hsz : l.toArray.size = ord.length := by simp [h2]
  rw [hsz, h2]
  exact h2 ▸ this

theorem pw_drawF {id : Nat} {l : List Oper} (ord : List (Nat × Bool)) (i : Nat) (o1 : List (Nat × Bool)) (j : Nat) (o2 : List (Nat × Bool)) (hm : P.follows .mixedOrders = true) (hB : okFork l.toArray ord i o1 j o2 (Array.replicate l.length false) = true)
    (h : PWO P Gl B l.toArray (eitherOf P Gl B l.toArray Q ((i, false) :: o1) ((j, false) :: o2)) ord env st []) : PW P Gl B (.region id l.toArray true) env st Q := fun A w β tmps hi he => by
  simp only [okFork, Bool.and_eq_true, beq_iff_eq] at hB
  obtain ⟨⟨⟨⟨⟨h1, h2⟩, h3⟩, h4⟩, h5⟩, h6⟩ := hB
  refine wp_region_any hm ?_
  have hE : Ext A w A { w with drawn := w.drawn + 1 } := ⟨fun _ h => h, fun _ _ => rfl⟩
  have := (PWO.soundP (Q := Q) (o1.length + 1) ord _ _ _ _ h1 (fun env st L hh => ?_) h).sound (ord.length + (o1.length + 1)) hi.drew (he.mono hE (.refl _))
  · have h6' : ord.length + (o1.length + 1) = l.length := by simpa using h6
    rw [h6'] at this
    have hsz : l.toArray.size = l.length := by simp
    rw [hsz]
    exact this
  · refine ⟨fun h0 => (by rw [h2] at h0; cases h0), fun k hk => ?_⟩
    rw [h2] at hk
    simp only [List.mem_cons, List.mem_nil_iff, or_false] at hk
    rcases hk with rfl | rfl
    · exact StepD.mono hh.1 fun env' st' ⟨g1, g2⟩ => ⟨g1, PWO.sound _ _ _ _ _ h3 g2⟩
    · exact StepD.mono hh.2 fun env' st' ⟨g1, g2⟩ => ⟨g1, h5 ▸ PWO.sound _ _ _ _ _ h4 g2⟩

/-! ### steps of the walk in an order -/
variable {E : List PV → List PObj → List (Nat × Nat) → Prop}
/-- The object that an operation looks at. -/
def lockOf (_st : List PObj) (env : List PV) : Op → Option Nat
  | .load _ x => match pe env x with
    | .ptr i _ => some i
    | _ => none
  | _ => none

theorem pe_agree {env env' : List PV} {x : Operand} (h : ∀ t, x = .tmp t → env'[t]? = env[t]?) : pe env' x = pe env x := by
  cases x with
  | tmp t => simp only [pe, h t rfl]
  | _ => rfl

theorem pureOp_agree {st' : List PObj} {env' : List PV} {op : Op} {x : PV} (h : pureOp tys st env op = some x) (he : ∀ t, Operand.tmp t ∈ op.operands.toList → env'[t]? = env[t]?)
    (hl : ∀ p, lockOf st env op = some p → st'[p]? = st[p]?) : pureOp tys st' env' op = some x := by
  have ag : ∀ y, y ∈ op.operands.toList → pe env' y = pe env y := fun y hy => pe_agree fun t ht => he t (ht ▸ hy)
  cases op <;> simp only [pureOp] at h ⊢ <;> first | (cases h; done) | skip
  case move y => rw [ag y (by simp [Op.operands])]; exact h
  case assign y => rw [ag y (by simp [Op.operands])]; exact h
  case pick c a b => rw [ag c (by simp [Op.operands]), ag a (by simp [Op.operands]), ag b (by simp [Op.operands])]; exact h
  case nilCheck y => rw [ag y (by simp [Op.operands])]; exact h
  case binOp op T a b T' => rw [ag a (by simp [Op.operands]), ag b (by simp [Op.operands])]; exact h
  case unOp op T a => rw [ag a (by simp [Op.operands])]; exact h
  case fieldAddr T a f => rw [ag a (by simp [Op.operands])]; exact h
  case field T a f => rw [ag a (by simp [Op.operands])]; exact h
  case load T a =>
    rw [ag a (by simp [Op.operands])]
    simp only [lockOf] at hl
    split at h
    · split at h
      · rename_i hk
        rw [if_pos hk]
        split at h
        · rename_i i off hp
          simp only [hp] at hl ⊢
          rw [hl i rfl]; exact h
        · exact h
        · cases h
      · cases h
    · cases h
  case extract a i => rw [ag a (by simp [Op.operands])]; exact h
  case makeInterface T a => rw [ag a (by simp [Op.operands])]; exact h
  case makeFunc f first caps =>
    rw [List.map_congr_left (l := first.toList) (fun y hy => ag y (by simp [Op.operands]; left; simpa using hy)), List.map_congr_left (l := caps.toList) (fun y hy => ag y (by simp [Op.operands]; right; simpa using hy))]; exact h
  case call c =>
    rw [List.map_congr_left (fun y hy => ag y (by simp only [Op.operands, Call.operands, Array.toList_append, List.mem_append]; right; exact hy))]; exact h
  case build T parts =>
    rw [List.map_congr_left (g := fun p => (p.1, pe env p.2)) (fun y hy => by rw [ag y.2 (by simp only [Op.operands]; exact List.mem_map_of_mem hy)])]; exact h

/-- A free operation, reckoned: its value, the frame behind it and the object that it looks at. -/
def freeStep (tys : List TI) (ops : Array Oper) (st : List PObj) (i : Nat) (env : List PV) (L : List (Nat × Nat)) : Option (List PV × List (Nat × Nat)) :=
  match ops[i]? with
  | none => none
  | some o => match o.guard with
    | none => match pureOp tys st env o.op with
      | some x => x.force fun x => match o.dst with
        | some d => forceL (env.set d x) fun e => some (e, match lockOf st env o.op with | some p => (i, p) :: L | none => L)
        | none => none
      | none => none
    | some (j, want) => match guardE ops env j with
      | some (some b) => match b == want with
        | true => match pureOp tys st env o.op with
          | some x => x.force fun x => match o.dst with
            | some d => forceL (env.set d x) fun e => some (e, match lockOf st env o.op with | some p => (i, p) :: L | none => L)
            | none => none
          | none => none
        | false => match o.dst with
          | some d => forceL (env.set d (.tup [])) fun e => some (e, L)
          | none => none
      | some none => match o.dst with
        | some d => forceL (env.set d (.tup [])) fun e => some (e, L)
        | none => none
      | none => none

theorem po_free {rest : List (Nat × Bool)} {i : Nat} {env' : List PV} {L L' : List (Nat × Nat)} (hT : Tys P tys) (h : freeStep tys ops st i env L = some (env', L')) (hr : PWO P Gl B ops E rest env' st L') :
    PWO P Gl B ops E ((i, true) :: rest) env st L := by
  unfold freeStep at h
  split at h
  · cases h
  · rename_i o ho
    have val : ∀ x, pureOp tys st env o.op = some x → ∀ st', (∀ p, lockOf st env o.op = some p → st'[p]? = st[p]?) → OpP P Gl B o (maskE (o.looksAt ops) 0 env) st' fun y s => y = x ∧ s = st' := by
      intro x hx st' e2
      refine op_val (fun A w β tmps hi he => pureOp_sound hT (pureOp_agree hx (fun t ht => ?_) e2) hi he) ⟨rfl, rfl⟩
      have hm : t ∈ o.looksAt ops := List.mem_append_left _ (List.mem_filterMap.2 ⟨.tmp t, ht, rfl⟩)
      rw [maskE_get, Nat.zero_add]
      have : (o.looksAt ops).contains t = true := by simpa using hm
      rw [this]
      cases env[t]? <;> rfl
    have lk : ∀ (l : Option Nat), (match l with | some p => (i, p) :: L | none => L) = (l.toList.map fun p => (i, p)) ++ L := fun l => by cases l <;> rfl
    split at h
    · rename_i hg
      split at h
      · rename_i x hx
        rw [PV.force_eq] at h
        split at h
        · rename_i d hd
          rw [forceL_eq] at h
          cases h
          refine ⟨o, x, lockOf st env o.op, ho, ?_, ?_⟩
          · unfold Free
            simp only [hg]
            exact val x hx
          · simp only [putE, hd]
            rw [← lk]
            exact hr
        · cases h
      · cases h
    · rename_i j want hg
      split at h
      · rename_i b hy
        split at h
        · rename_i hb
          have hb' : b = want := by simpa using hb
          split at h
          · rename_i x hx
            rw [PV.force_eq] at h
            split at h
            · rename_i d hd
              rw [forceL_eq] at h
              cases h
              refine ⟨o, x, lockOf st env o.op, ho, ?_, ?_⟩
              · unfold Free
                simp only [hg]
                exact ⟨some b, hy, fun _ => val x hx, fun hne => absurd (congrArg some hb') hne⟩
              · simp only [putE, hd]
                rw [← lk]
                exact hr
            · cases h
          · cases h
        · rename_i hb
          have hb' : b ≠ want := by simpa using hb
          split at h
          · rename_i d hd
            rw [forceL_eq] at h
            cases h
            refine ⟨o, .tup [], none, ho, ?_, ?_⟩
            · unfold Free
              simp only [hg]
              exact ⟨some b, hy, fun he => absurd (Option.some.inj he) hb', fun _ => trivial⟩
            · simp only [putE, hd]
              exact hr
          · cases h
      · rename_i hy
        split at h
        · rename_i d hd
          rw [forceL_eq] at h
          cases h
          refine ⟨o, .tup [], none, ho, ?_, ?_⟩
          · unfold Free
            simp only [hg]
            exact ⟨none, hy, (fun he => by cases he), fun _ => trivial⟩
          · simp only [putE, hd]
            exact hr
        · cases h
      · cases h

theorem po_step {rest : List (Nat × Bool)} {i : Nat} {L : List (Nat × Nat)} {oi : Oper} (ho : ops[i]? = some oi) (hg : oi.guard = none)
    (h : OpP P Gl B oi (maskE (oi.looksAt ops) 0 env) st fun x st' => LOK ops i st st' L ∧ PWO P Gl B ops E rest (putE env oi.dst x) st' L) : PWO P Gl B ops E ((i, false) :: rest) env st L := by
  unfold PWO StepD
  simp only [ho, hg]
  exact h

theorem po_on {rest : List (Nat × Bool)} {i j : Nat} {want : Bool} {L : List (Nat × Nat)} {oi : Oper} (ho : ops[i]? = some oi) (hg : oi.guard = some (j, want)) (hy : yieldE ops env j = some want)
    (h : OpP P Gl B oi (maskE (oi.looksAt ops) 0 env) st fun x st' => LOK ops i st st' L ∧ PWO P Gl B ops E rest (putE env oi.dst x) st' L) : PWO P Gl B ops E ((i, false) :: rest) env st L := by
  unfold PWO StepD
  simp only [ho, hg]
  exact ⟨some want, guardE_yield hy, fun _ => h, fun hne => (hne rfl).elim⟩

theorem po_off {rest : List (Nat × Bool)} {i j : Nat} {want b : Bool} {L : List (Nat × Nat)} {oi : Oper} (ho : ops[i]? = some oi) (hg : oi.guard = some (j, want)) (hy : yieldE ops env j = some b) (hb : b ≠ want)
    (h : PWO P Gl B ops E rest (putE env oi.dst (.tup [])) st L) : PWO P Gl B ops E ((i, false) :: rest) env st L := by
  unfold PWO StepD
  simp only [ho, hg]
  exact ⟨some b, guardE_yield hy, fun he => absurd (Option.some.inj he) hb, fun _ => ⟨LOK.refl _ _ _, h⟩⟩

theorem po_offN {rest : List (Nat × Bool)} {i j : Nat} {want : Bool} {L : List (Nat × Nat)} {oi : Oper} (ho : ops[i]? = some oi) (hg : oi.guard = some (j, want)) (hy : guardE ops env j = some none)
    (h : PWO P Gl B ops E rest (putE env oi.dst (.tup [])) st L) : PWO P Gl B ops E ((i, false) :: rest) env st L := by
  unfold PWO StepD
  simp only [ho, hg]
  exact ⟨none, hy, (fun he => by cases he), fun _ => ⟨LOK.refl _ _ _, h⟩⟩

theorem po_val {rest : List (Nat × Bool)} {i : Nat} {L : List (Nat × Nat)} {oi : Oper} {x : PV} (ho : ops[i]? = some oi) (hg : oi.guard = none) (hv : OpV P Gl B oi (maskE (oi.looksAt ops) 0 env) x)
    (hr : PWO P Gl B ops E rest (putE env oi.dst x) st L) : PWO P Gl B ops E ((i, true) :: rest) env st L := by
  refine ⟨oi, x, none, ho, ?_, hr⟩
  unfold Free
  simp only [hg]
  exact fun st' _ => op_of hv ⟨rfl, rfl⟩

theorem po_gval {rest : List (Nat × Bool)} {i j : Nat} {want : Bool} {L : List (Nat × Nat)} {oi : Oper} {x : PV} (ho : ops[i]? = some oi) (hg : oi.guard = some (j, want)) (hy : yieldE ops env j = some want)
    (hv : OpV P Gl B oi (maskE (oi.looksAt ops) 0 env) x) (hr : PWO P Gl B ops E rest (putE env oi.dst x) st L) : PWO P Gl B ops E ((i, true) :: rest) env st L := by
  refine ⟨oi, x, none, ho, ?_, hr⟩
  unfold Free
  simp only [hg]
  exact ⟨some want, guardE_yield hy, fun _ st' _ => op_of hv ⟨rfl, rfl⟩, fun hne => (hne rfl).elim⟩

/-- A free operation that makes something that never changes. -/
theorem po_make {rest : List (Nat × Bool)} {i : Nat} {L : List (Nat × Nat)} {oi : Oper} {x : PV} (ho : ops[i]? = some oi) (hg : oi.guard = none)
    (hv : ∀ st' (K : PV → List PObj → Prop), K x st' → OpP P Gl B oi (maskE (oi.looksAt ops) 0 env) st' K)
    (hr : PWO P Gl B ops E rest (putE env oi.dst x) st L) : PWO P Gl B ops E ((i, true) :: rest) env st L := by
  refine ⟨oi, x, none, ho, ?_, hr⟩
  unfold Free
  simp only [hg]
  exact fun st' _ => hv st' _ ⟨rfl, rfl⟩

theorem po_nil {L : List (Nat × Nat)} (h : E env st L) : PWO P Gl B ops E [] env st L := by
  unfold PWO; exact h

theorem po_norm {ord : List (Nat × Bool)} {L : List (Nat × Nat)} {env' : List PV} {st' : List PObj} (h : (forceL env fun e => forceSt st fun s => some (e, s)) = some (env', st')) (hr : PWO P Gl B ops E ord env' st' L) : PWO P Gl B ops E ord env st L := by
  rw [forceL_eq, forceSt_eq] at h
  cases h
  exact hr
theorem po_cases {ord : List (Nat × Bool)} {L : List (Nat × Nat)} {b : Bool} (h1 : b = true → PWO P Gl B ops E ord env st L) (h2 : b = false → PWO P Gl B ops E ord env st L) : PWO P Gl B ops E ord env st L := by
  cases b
  · exact h2 rfl
  · exact h1 rfl
end draw
end Go.Pw
namespace Go.Pw
open Go

section rules
variable {P : Program} {Gl : Glob} {B : Base} {tys : List TI} {env : List PV} {st : List PObj} {ops : Array Oper} {rest : List Oper} {o : Oper} {Q : Post}
  {A : Nat → Prop} {w : World} {β : List Nat} {tmps : List Value}

/-- A value without references does not ask for the owned objects. -/
theorem Den.ground {n : Nat} {p : PV} {v : Value} (h : Den A w β p v) (hp : p.refs (fun _ => false) n = true) : Den A w [] p v := by
  have := h.ren (β' := []) (d := fun _ => false) (r := fun i => i) (fun i b hf _ => by cases hf) n hp
  rwa [PV.ren_id] at this

/-- The elements of a row, each with its cells. -/
def RowDen (A : Nat → Prop) (w : World) (k : Nat) (xs : List PV) (cs : List Value) : Prop :=
  cs.length = xs.length * k ∧ (∀ x ∈ xs, x.cells.length = k) ∧ ∀ (i : Nat) x (j : Nat) c, xs[i]? = some x → x.cells[j]? = some c → ∃ v, cs[i * k + j]? = some v ∧ Den A w [] c v

theorem RowDen.nil (k : Nat) : RowDen A w k [] [] := ⟨by simp, by simp, by intro i x j c h; simp at h⟩

theorem RowDen.append {k : Nat} {xs ys : List PV} {cs ds : List Value} (h : RowDen A w k xs cs) (g : RowDen A w k ys ds) : RowDen A w k (xs ++ ys) (cs ++ ds) := by
  obtain ⟨h1, h2, h3⟩ := h
  obtain ⟨g1, g2, g3⟩ := g
  refine ⟨by simp [h1, g1, Nat.add_mul], fun x hx => by rcases List.mem_append.1 hx with hx | hx; exact h2 x hx; exact g2 x hx, fun i x j c hx hc => ?_⟩
  have hj : j < k := by
    have hxm : x ∈ xs ++ ys := List.mem_of_getElem? hx
    have : x.cells.length = k := by rcases List.mem_append.1 hxm with hx | hx; exact h2 x hx; exact g2 x hx
    rw [← this]; exact (List.getElem?_eq_some_iff.1 hc).1
  by_cases hi : i < xs.length
  · rw [List.getElem?_append_left hi] at hx
    obtain ⟨v, hv, hd⟩ := h3 i x j c hx hc
    refine ⟨v, ?_, hd⟩
    rw [List.getElem?_append_left (by rw [h1]; have : (i + 1) * k ≤ xs.length * k := Nat.mul_le_mul_right _ hi; rw [Nat.add_mul] at this; omega)]
    exact hv
  · rw [List.getElem?_append_right (by omega)] at hx
    obtain ⟨v, hv, hd⟩ := g3 _ x j c hx hc
    refine ⟨v, ?_, hd⟩
    have hik : i * k = xs.length * k + (i - xs.length) * k := by rw [← Nat.add_mul]; congr 1; omega
    rw [List.getElem?_append_right (by rw [h1, hik]; omega), h1, hik]
    rw [show xs.length * k + (i - xs.length) * k + j - xs.length * k = (i - xs.length) * k + j by omega]
    exact hv

theorem RowDen.one {k : Nat} {x : PV} {v : Value} (h : Den A w β x v) (ho : x.okPart = true) (hr : x.refs (fun _ => false) 5 = true) (hk : x.cells.length = k) : ∃ cs : List Value, v.cells = cs.toArray ∧ RowDen A w k [x] cs := by
  obtain ⟨vs, h1, h2, h3⟩ := cells_den (h.ground hr) ho
  refine ⟨vs, h1, by simp [← h2, hk], by simpa using hk, fun i y j c hy hc => ?_⟩
  cases i with
  | zero =>
    simp at hy
    subst hy
    have hlt : j < vs.length := by rw [← h2]; exact (List.getElem?_eq_some_iff.1 hc).1
    exact ⟨vs[j], by simp [hlt], h3 j c _ hc (List.getElem?_eq_getElem hlt)⟩
  | succ i => simp at hy

/-- The cells of a slice that is appended. -/
theorem run_first {k : Nat} {ys : List PV} {v : Value} (h : Den A w β (.sl ys) v) (hk : ∀ y ∈ ys, y.cells.length = k) : ∃ (a : Option Addr) (cap : Nat) (cs : List Value), v = .slice a ys.length cap ∧ (∀ w2 : World, w2.heap = w.heap → (Builtin.firstCells k ys.length v).run P w2 = .ok cs.toArray w2) ∧ RowDen A w k ys cs := by
  cases h with
  | slnil => exact ⟨none, 0, [], rfl, by intro w2 _; simp [Builtin.firstCells], RowDen.nil k⟩
  | sl _ kk _ a cap f h1 h2 h3 h4 h5 h6 =>
    by_cases hne : ys = []
    · subst hne
      exact ⟨some a, cap, [], rfl, by intro w2 _; simp [Builtin.firstCells, loadCells, loadCellsFrom], RowDen.nil k⟩
    obtain ⟨hA, hsp⟩ := h1 hne
    obtain ⟨y0, ys', rfl⟩ : ∃ y0 ys', ys = y0 :: ys' := by cases ys with | nil => exact absurd rfl hne | cons a b => exact ⟨a, b, rfl⟩
    have hkk : kk = k := by rw [← h4 y0 (by simp)]; exact hk y0 (by simp)
    subst hkk
    obtain ⟨ab, ao, asp⟩ := a
    simp only at hA hsp h5
    subst hsp
    have get : ∀ m, m < (y0 :: ys').length * kk → ∃ x c, (y0 :: ys')[m / kk]? = some x ∧ x.cells[m % kk]? = some c := by
      intro m hm
      have hk0 : 0 < kk := by rcases Nat.eq_zero_or_pos kk with h | h; simp [h] at hm; exact h
      have hq : m / kk < (y0 :: ys').length := Nat.div_lt_of_lt_mul (by rwa [Nat.mul_comm] at hm)
      have hx : (y0 :: ys')[m / kk]? = some (y0 :: ys')[m / kk] := List.getElem?_eq_getElem hq
      have hcl : (y0 :: ys')[m / kk].cells.length = kk := h4 _ (List.getElem_mem hq)
      exact ⟨_, _, hx, List.getElem?_eq_getElem (by rw [hcl]; exact Nat.mod_lt _ hk0)⟩
    have hl := fun (w2 : World) (hw2 : w2.heap = w.heap) => run_loadCells (P := P) w2 ⟨ab, ao, none⟩ ((y0 :: ys').length * kk) (fun m => f (m / kk) (m % kk)) (fun m hm => by
      obtain ⟨x, c, hx, hc⟩ := get m hm
      have := h5 _ _ _ _ hx hc
      rw [addr_add]
      rw [cell_same (w := w) (w' := w2) (by rw [hw2])]
      rw [Nat.mul_comm, Nat.div_add_mod] at this
      exact this)
    refine ⟨_, cap, _, rfl, by simpa only [Builtin.firstCells] using hl, by simp, h4, fun i x j c hx hc => ⟨f i j, ?_, h6 i x j c hx hc⟩⟩
    have hj : j < kk := by rw [← h4 x (List.mem_of_getElem? hx)]; exact (List.getElem?_eq_some_iff.1 hc).1
    have hi : i < (y0 :: ys').length := (List.getElem?_eq_some_iff.1 hx).1
    have hlt : i * kk + j < (y0 :: ys').length * kk := by have : (i + 1) * kk ≤ (y0 :: ys').length * kk := Nat.mul_le_mul_right _ hi; rw [Nat.add_mul] at this; omega
    rw [List.getElem?_map, List.getElem?_range hlt]
    simp only [Option.map_some]
    have h1 : (i * kk + j) / kk = i := by rw [Nat.add_comm, Nat.add_mul_div_right _ _ (by omega), Nat.div_eq_of_lt hj]; omega
    have h2 : (i * kk + j) % kk = j := by rw [Nat.add_comm, Nat.add_mul_mod_self_right]; exact Nat.mod_eq_of_lt hj
    rw [h1, h2]

/-- A row of cells as an owned array. -/
theorem arr_of_row {k : Nat} {xs : List PV} {cs zs : List Value} {cap : Nat} {b : Nat} {T : TypeId} (hb : w.heap[b]? = some (.cells (cs ++ zs).toArray T (0, 0))) (h : RowDen A w k xs cs) (hz : (cs ++ zs).length = cap * k) (hx : xs.length ≤ cap) (hc : cap ≤ maxLen) :
    ObjRel A β w b (.arr k xs cap) := by
  obtain ⟨h1, h2, h3⟩ := h
  refine ⟨hx, hc, h2, fun _ => ⟨cs ++ zs, T, (0, 0), hb, hz, by intro j _; simp, fun i x j c hi hj => ?_⟩⟩
  obtain ⟨v, hv, hd⟩ := h3 i x j c hi hj
  exact ⟨v, by rw [List.getElem?_append_left (List.getElem?_eq_some_iff.1 hv).1]; exact hv, hd⟩

theorem RowDen.mono {A' : Nat → Prop} {w' : World} {k : Nat} {xs : List PV} {cs : List Value} (h : RowDen A w k xs cs) (e : Ext A w A' w') : RowDen A' w' k xs cs :=
  ⟨h.1, h.2.1, fun i x j c h1 h2 => by obtain ⟨v, hv, hd⟩ := h.2.2 i x j c h1 h2; exact ⟨v, hv, hd.mono e (.refl _)⟩⟩

/-- New memory becomes an owned array. -/
theorem op_newarr {K : PV → List PObj → Prop} {k : Nat} {xs : List PV}
    (h : ∀ A w β tmps, Inv Gl B A w β st → EnvRel A w β env tmps → ∃ (w0 : World) (cs zs : List Value) (cap : Nat) (T : TypeId), Inv Gl B A w0 β st ∧ Ext A w A w0 ∧ RowDen A w0 k xs cs ∧ (cs ++ zs).length = cap * k ∧ xs.length ≤ cap ∧ cap ≤ maxLen ∧
      (execOp (⟨tmps.toArray, []⟩ : Act).eval o).run P w = .ok (.value (.slice (some ⟨w0.heap.size, 0, none⟩) xs.length cap)) (w0.alloc (.cells (cs ++ zs).toArray T)) ∧ K (.msl k st.length 0 xs.length cap) (st ++ [.arr k xs cap])) :
    OpP P Gl B o env st K := fun A w β tmps Q hi he => by
  obtain ⟨w0, cs, zs, cap, T, hi0, hE0, hrow, hl, hx, hc, hr, hK⟩ := h A w β tmps hi he
  unfold Oper.wp
  rw [hr]
  have hE := hi0.ext_alloc (.cells (cs ++ zs).toArray T)
  have hlen := hi0.len
  refine ⟨_, _, _, A, β ++ [w0.heap.size], rfl, hK, ?_, hi0.snoc _ _ (arr_of_row (T := T) ?_ (hrow.mono hE) hl hx hc), hE0.trans hE, Pre.snoc _ _⟩
  · have : Den A (w0.alloc (.cells (cs ++ zs).toArray T)) (β ++ [w0.heap.size]) (.msl k st.length 0 xs.length cap) (.slice (some ⟨w0.heap.size, 0 * k, none⟩) xs.length cap) := .msl _ _ _ _ _ _ _ (by rw [← hlen]; simp)
    rwa [Nat.zero_mul] at this
  · show (w0.heap.push _)[w0.heap.size]? = _
    simp

/-- A new block whose cells never change. -/
theorem Inv.fix (hi : Inv Gl B A w β st) (ob : Obj) : ∃ A', Inv Gl B A' (w.alloc ob) β st ∧ Ext A w A' (w.alloc ob) ∧ A' w.heap.size := by
  have hsz : (w.alloc ob).heap.size = w.heap.size + 1 := by show (w.heap.push ob).size = _; simp
  have hsame : ∀ b, b < w.heap.size → (w.alloc ob).heap[b]? = w.heap[b]? := fun b hb => by
    show (w.heap.push ob)[b]? = _
    rw [Array.getElem?_push, if_neg (by omega)]
  have hE : Ext A w (fun b => A b ∨ b = w.heap.size) (w.alloc ob) := ⟨fun _ h => .inl h, fun b hb => hsame b (hi.lt b hb)⟩
  have hlt : ∀ {i b : Nat}, β[i]? = some b → liveAt st i → b < w.heap.size := fun {i b} hb ⟨o, ho, hl⟩ => (hi.obj i b o hb ho).lt hl
  refine ⟨fun b => A b ∨ b = w.heap.size, ⟨hi.len, hi.inj, fun i b o h1 h2 => ?_, fun i b h1 l1 => ?_, hi.own, fun b hb => ?_, fun b hb => ?_, fun b hb => .inl (hi.old b hb), by rw [hsz]; exact Nat.le_succ_of_le hi.size, hi.os, hi.tape, hi.output, fun b hb hk => ?_, hi.glob, hi.pre, hi.apart⟩, hE, .inr rfl⟩
  · cases ho : o.live with
    | false => exact (hi.obj i b o h1 h2).still ho
    | true => exact (hi.obj i b o h1 h2).mono hE (.refl _) (hsame b (hlt h1 ⟨o, h2, ho⟩))
  · rintro (h | h)
    · exact hi.notA i b h1 l1 h
    · have := hlt h1 l1; omega
  · rcases hb with h | h
    · rw [hsz]; exact Nat.lt_succ_of_lt (hi.lt b h)
    · omega
  · rcases hb with h | h
    · exact hi.new b h
    · right; right; rw [h]; exact hi.size
  · rw [hsame b (Nat.lt_of_lt_of_le hb hi.size)]; exact hi.keep b hb hk

theorem op_newfix {K : PV → List PObj → Prop} {k : Nat} {xs : List PV} (hxl : xs.length ≤ maxLen)
    (h : ∀ A w β tmps, Inv Gl B A w β st → EnvRel A w β env tmps → ∃ (cs : List Value) (T : TypeId), RowDen A w k xs cs ∧
      (execOp (⟨tmps.toArray, []⟩ : Act).eval o).run P w = .ok (.value (.slice (some ⟨w.heap.size, 0, none⟩) xs.length xs.length)) (w.alloc (.cells cs.toArray T)))
    (hK : K (.sl xs) st) : OpP P Gl B o env st K := fun A w β tmps Q hi he => by
  obtain ⟨cs, T, hrow, hr⟩ := h A w β tmps hi he
  unfold Oper.wp
  rw [hr]
  obtain ⟨A', hi', hE, hA⟩ := hi.fix (.cells cs.toArray T)
  have hrow' := hrow.mono hE
  obtain ⟨r1, r2, r3⟩ := hrow'
  refine ⟨_, _, _, A', β, rfl, hK, ?_, hi', hE, .refl _⟩
  refine .sl _ k _ _ _ (fun i j => cs.getD (i * k + j) undef) (fun _ => ⟨hA, rfl⟩) (Nat.le_refl _) hxl r2 (fun i x j c hx hc => ?_) (fun i x j c hx hc => ?_)
  · obtain ⟨v, hv, _⟩ := r3 i x j c hx hc
    simp only [Nat.zero_add, List.getD, hv, Option.getD_some]
    have : (w.alloc (.cells cs.toArray T)).heap[w.heap.size]? = some (.cells cs.toArray T (0, 0)) := by show (w.heap.push _)[w.heap.size]? = _; simp
    rw [obj_cell this]; exact hv
  · obtain ⟨v, hv, hd⟩ := r3 i x j c hx hc
    simp only [List.getD, hv, Option.getD_some]
    exact hd

/-! ### literals -/
/-- The parts of a slice's literal, if they are given in order. -/
def litP (env : List PV) : Nat → List (Nat × Operand) → Option (List PV)
  | _, [] => some []
  | i, (j, x) :: rest => if i = j then (litP env (i + 1) rest).map (pe env x :: ·) else none

theorem lit_sound (k : Nat) (hk : 0 < k) (he : EnvRel A w β env tmps) : ∀ (parts : List (Nat × Operand)) (n : Nat) (done : List Value) (zs : List Value) (xs : List PV), litP env n parts = some xs → done.length = n * k → zs.length = parts.length * k →
    xs.all PV.okPart = true → xs.all (PV.refs (fun _ => false) 5) = true → (∀ x ∈ xs, x.cells.length = k) →
    ∃ cs : List Value, Instr.fill (fun i => some (i * k, k)) (done ++ zs).toArray (parts.map fun p => (p.1, (⟨tmps.toArray, []⟩ : Act).eval p.2)) = some (done ++ cs).toArray ∧ RowDen A w k xs cs
  | [], n, done, zs, xs, hx, hd, hz, _, _, _ => by
    simp only [litP] at hx
    cases hx
    have : zs = [] := List.eq_nil_of_length_eq_zero (by simpa using hz)
    subst this
    exact ⟨[], by simp [Instr.fill], RowDen.nil k⟩
  | (j, x) :: parts, n, done, zs, xs, hx, hd, hz, h1, h2, h3 => by
    simp only [litP] at hx
    split at hx
    · rename_i hnj
      subst hnj
      cases hl : litP env (n + 1) parts with
      | none => rw [hl] at hx; cases hx
      | some ys =>
        rw [hl] at hx
        cases hx
        simp only [List.all_cons, Bool.and_eq_true] at h1 h2
        obtain ⟨us, hu1, hu2⟩ := RowDen.one (he.eval [] x) h1.1 h2.1 (h3 _ (by simp))
        have hul : us.length = k := by rw [hu2.1]; simp
        simp only [List.length_cons, Nat.add_mul, Nat.one_mul] at hz
        obtain ⟨cs, hc1, hc2⟩ := lit_sound k hk he parts (n + 1) (done ++ us) (zs.drop k) ys hl (by simp [hd, hul, Nat.add_mul]) (by simp [hz]) h1.2 h2.2 (fun y hy => h3 y (by simp [hy]))
        refine ⟨us ++ cs, ?_, by simpa using hu2.append hc2⟩
        simp only [List.map_cons, Instr.fill]
        rw [if_neg (by rw [hu1]; simp [hul, hd, hz]), hu1]
        have hf := fold_set (n * k) us 0 (done ++ zs) (by simp [hd, hul, hz])
        have hsplit : (done ++ zs).take (n * k + 0) ++ us ++ (done ++ zs).drop (n * k + 0 + us.length) = done ++ us ++ zs.drop k := by
          rw [Nat.add_zero, ← hd, List.take_left', List.drop_append, List.drop_eq_nil_of_le (by omega), hul]
          · simp
          · rfl
        rw [hsplit] at hf
        have hf' : us.toArray.zipIdx.foldl (fun (cs : Array Value) (x : Value × Nat) => cs.setIfInBounds (n * k + x.2) x.1) (done ++ zs).toArray = (done ++ us ++ zs.drop k).toArray := by
          rw [← hf, ← Array.foldl_toList]; simp
        rw [hf', hc1]
        simp
    · cases hx

theorem run_buildSlice {T e s b z1 z2 : Nat} {z3 : Option (List PV)} {zl : List PV} {t1 : TK} {e1 e2 : Nat} (hT : Tys P tys) (ht : tys[T]? = some ⟨.sl e s b, z1, z2, z3⟩) (hte : tys[e]? = some ⟨t1, e1, e2, some zl⟩) {len : Nat} {parts : Array (Nat × Operand)} (ho : o.op = .buildSlice T len parts) {xs : List PV}
    (hx : litP env 0 parts.toList = some xs) (hlen : len = parts.toList.length) (hs : 0 < s) (hsz : decide (len * s ≤ 16777216) = true) (h1 : xs.all PV.okPart = true) (h2 : xs.all (PV.refs (fun _ => false) 5) = true) (h3 : xs.all (fun x => x.cells.length == s) = true) (he : EnvRel A w β env tmps) :
    ∃ cs : List Value, xs.length = len ∧ RowDen A w s xs cs ∧ (execOp (⟨tmps.toArray, []⟩ : Act).eval o).run P w = .ok (.value (.slice (some ⟨w.heap.size, 0, none⟩) len len)) (w.alloc (.cells cs.toArray e)) := by
  obtain ⟨ti, d, hi1, hu, htk, _⟩ := tyOf_spec (hT _ _ ht)
  obtain ⟨rfl, hse⟩ := tkOf_sl' htk
  obtain ⟨tie, de, hie, hue, htke, hsze, _, hze⟩ := tyOf_spec (hT _ _ hte)
  have hlx : ∀ (ps : List (Nat × Operand)) (n : Nat) (ys : List PV), litP env n ps = some ys → ys.length = ps.length := by
    intro ps
    induction ps with
    | nil => intro n ys h; simp only [litP] at h; cases h; rfl
    | cons p ps ih =>
      intro n ys h
      obtain ⟨j, x⟩ := p
      simp only [litP] at h
      split at h
      · cases hl : litP env (n + 1) ps with
        | none => rw [hl] at h; cases h
        | some zs => rw [hl] at h; cases h; simp [ih _ _ hl]
      · cases h
  have h3' : ∀ x ∈ xs, x.cells.length = s := fun x hx => by simpa using List.all_eq_true.1 h3 x hx
  cases hzv : tie.zero with
  | none => simp only [hzv] at hze; cases hze
  | some zv =>
    have hz : (zeroValue e).run P w = .ok zv w := by simp [zeroValue, run_info hie, hzv]
    obtain ⟨cs, hc1, hc2⟩ := lit_sound (w := w) s hs he parts.toList 0 [] ((List.range (len * s)).map fun i => zv.cells[i % zv.cells.size]!) xs hx (by simp) (by simp [hlen]) h1 h2 h3'
    refine ⟨cs, by rw [hlx _ _ _ hx, hlen], hc2, ?_⟩
    have hsz' : ¬ (len * s > 2 ^ 24) := by have := of_decide_eq_true hsz; omega
    have hp : (parts.map fun x => (x.1, (⟨tmps.toArray, []⟩ : Act).eval x.2)).toList = parts.toList.map fun p => (p.1, (⟨tmps.toArray, []⟩ : Act).eval p.2) := by simp
    simp only [List.nil_append] at hc1
    simp only [execOp, ho, Instr.buildSlice, Sem.run_bind, run_underlying hu, Result.andThen_ok, run_size hse, if_neg hsz', hp]
    by_cases h0 : len * s = 0
    · have hrow : (Array.range (len * s)).map (fun i => (#[] : Array Value)[i % (#[] : Array Value).size]!) = ((List.range (len * s)).map fun i => zv.cells[i % zv.cells.size]!).toArray := by simp [h0]
      rw [if_pos h0]
      simp only [Sem.run_bind, Sem.run_pure, Result.andThen_ok, hrow, hc1]
      simp [newRow]
    · have hrow : (Array.range (len * s)).map (fun i => zv.cells[i % zv.cells.size]!) = ((List.range (len * s)).map fun i => zv.cells[i % zv.cells.size]!).toArray := by
        apply Array.ext'
        simp
      rw [if_neg h0]
      simp only [Sem.run_bind, Sem.run_pure, Result.andThen_ok, hz, hrow, hc1]
      simp [newRow]

/-- A slice's literal whose cells never change. -/
theorem op_lit {K : PV → List PObj → Prop} {T e s b z1 z2 : Nat} {z3 : Option (List PV)} {zl : List PV} {t1 : TK} {e1 e2 : Nat} {len : Nat} {parts : Array (Nat × Operand)} {xs : List PV} (hT : Tys P tys) (ho : o.op = .buildSlice T len parts) (ht : tys[T]? = some ⟨.sl e s b, z1, z2, z3⟩) (hte : tys[e]? = some ⟨t1, e1, e2, some zl⟩)
    (hx : litP env 0 parts.toList = some xs) (hlen : len = parts.toList.length) (hs : 0 < s) (hsz : decide (len * s ≤ 16777216) = true) (h1 : xs.all PV.okPart = true) (h2 : xs.all (PV.refs (fun _ => false) 5) = true) (h3 : xs.all (fun x => x.cells.length == s) = true)
    (hK : K (.sl xs) st) : OpP P Gl B o env st K := by
  have hsz' := of_decide_eq_true hsz
  have hb : len ≤ maxLen := by
    have : len * 1 ≤ len * s := Nat.mul_le_mul_left _ hs
    unfold maxLen; omega
  have hle : xs.length ≤ maxLen := by
    by_cases hne : ∃ A w β tmps, Inv Gl B A w β st ∧ EnvRel A w β env tmps
    · obtain ⟨A, w, β, tmps, _, he⟩ := hne
      obtain ⟨cs, hl, _⟩ := run_buildSlice (P := P) (w := w) hT ht hte ho hx hlen hs hsz h1 h2 h3 he
      omega
    · have hl : ∀ (ps : List (Nat × Operand)) (n : Nat) (ys : List PV), litP env n ps = some ys → ys.length = ps.length := by
        intro ps
        induction ps with
        | nil => intro n ys h; simp only [litP] at h; cases h; rfl
        | cons p ps ih =>
          intro n ys h
          obtain ⟨j, x⟩ := p
          simp only [litP] at h
          split at h
          · cases hl : litP env (n + 1) ps with
            | none => rw [hl] at h; cases h
            | some zs => rw [hl] at h; cases h; simp [ih _ _ hl]
          · cases h
      rw [hl _ _ _ hx]; omega
  refine op_newfix (k := s) hle (fun A w β tmps hi he => ?_) hK
  obtain ⟨cs, hl, hrow, hr⟩ := run_buildSlice (P := P) (w := w) hT ht hte ho hx hlen hs hsz h1 h2 h3 he
  exact ⟨cs, e, hrow, by rw [hl]; exact hr⟩

/-- A slice's literal of the function's own. -/
theorem op_litm {K : PV → List PObj → Prop} {T e s b z1 z2 : Nat} {z3 : Option (List PV)} {zl : List PV} {t1 : TK} {e1 e2 : Nat} {len : Nat} {parts : Array (Nat × Operand)} {xs : List PV} (hT : Tys P tys) (ho : o.op = .buildSlice T len parts) (ht : tys[T]? = some ⟨.sl e s b, z1, z2, z3⟩) (hte : tys[e]? = some ⟨t1, e1, e2, some zl⟩)
    (hx : litP env 0 parts.toList = some xs) (hlen : len = parts.toList.length) (hs : 0 < s) (hsz : decide (len * s ≤ 16777216) = true) (h1 : xs.all PV.okPart = true) (h2 : xs.all (PV.refs (fun _ => false) 5) = true) (h3 : xs.all (fun x => x.cells.length == s) = true)
    (hK : K (.msl s st.length 0 len len) (st ++ [.arr s xs len])) : OpP P Gl B o env st K := by
  have hsz' := of_decide_eq_true hsz
  refine op_newarr (k := s) (xs := xs) (fun A w β tmps hi he => ?_)
  obtain ⟨cs, hl, hrow, hr⟩ := run_buildSlice (P := P) (w := w) hT ht hte ho hx hlen hs hsz h1 h2 h3 he
  refine ⟨w, cs, [], len, e, hi, .refl _ _, hrow, by simp [hrow.1, hl], by omega, ?_, by rw [hl]; simpa using hr, by rw [hl]; exact hK⟩
  have : len * 1 ≤ len * s := Nat.mul_le_mul_left _ hs
  unfold maxLen; omega
end rules
end Go.Pw
namespace Go.Pw
open Go

section rules
variable {P : Program} {Gl : Glob} {B : Base} {tys : List TI} {env : List PV} {st : List PObj} {ops : Array Oper} {rest : List Oper} {o : Oper} {Q : Post}
  {A : Nat → Prop} {w : World} {β : List Nat} {tmps : List Value}

theorem StLe.kill (st : List PObj) (i : Nat) : StLe st (st.set i .dead) := by
  induction st generalizing i with
  | nil => trivial
  | cons x xs ih =>
    cases i with
    | zero => exact ⟨.inr (.inl rfl), StLe.refl xs⟩
    | succ i => exact ⟨.inl rfl, ih i⟩

theorem liveAt_kill {i j : Nat} (h : liveAt (st.set i .dead) j) : liveAt st j ∧ j ≠ i := by
  obtain ⟨o, h1, h2⟩ := h
  rw [List.getElem?_set] at h1
  split at h1
  · split at h1
    · cases h1; cases h2
    · cases h1
  · rename_i hij
    exact ⟨⟨o, h1, h2⟩, fun e => hij e.symm⟩

/-- An owned object gets a new number, at the store's end. -/
theorem Inv.move (hi : Inv Gl B A w β st) {i b : Nat} {x y : PObj} (hb : β[i]? = some b) (hx : st[i]? = some x) (hxl : x.live = true) (hy : ObjRel A (β ++ [b]) w b y) : Inv Gl B A w (β ++ [b]) (st.set i .dead ++ [y]) := by
  have hlen := hi.len
  have hil : i < st.length := (List.getElem?_eq_some_iff.1 hx).1
  have hget : ∀ {j c : Nat}, (β ++ [b])[j]? = some c → liveAt (st.set i .dead ++ [y]) j → (j ≠ i ∧ j < st.length ∧ β[j]? = some c ∧ liveAt st j) ∨ (j = st.length ∧ c = b) := by
    intro j c h l
    by_cases hj : j < st.length
    · left
      rw [List.getElem?_append_left (by omega)] at h
      have := liveAt_kill (liveAt_snoc l (by simpa using hj))
      exact ⟨this.2, hj, h, this.1⟩
    · right
      rw [List.getElem?_append_right (by omega)] at h
      have : j - β.length = 0 := by
        cases hk : j - β.length with
        | zero => rfl
        | succ n => rw [hk] at h; simp at h
      rw [this] at h
      simp at h
      exact ⟨by omega, h.symm⟩
  refine ⟨by simp [hlen], ?_, ?_, ?_, ?_, hi.lt, hi.new, hi.old, hi.size, hi.os, hi.tape, hi.output, hi.keep, hi.glob, fun j c h1 h2 => Pre.snoc _ _ _ _ (hi.pre j c h1 h2), hi.apart⟩
  · intro j k c h1 h2 l1 l2
    rcases hget h1 l1 with ⟨n1, m1, b1, v1⟩ | ⟨n1, b1⟩ <;> rcases hget h2 l2 with ⟨n2, m2, b2, v2⟩ | ⟨n2, b2⟩
    · exact hi.inj j k c b1 b2 v1 v2
    · subst b2; exact (n1 (hi.inj j i _ b1 hb v1 ⟨x, hx, hxl⟩)).elim
    · subst b1; exact (n2 (hi.inj k i _ b2 hb v2 ⟨x, hx, hxl⟩)).elim
    · omega
  · intro j c ob h1 h2
    by_cases hj : j < st.length
    · rw [List.getElem?_append_left (by simpa using hj), List.getElem?_set] at h2
      rw [List.getElem?_append_left (by omega)] at h1
      split at h2
      · cases h2; trivial
      · exact (hi.obj j c ob h1 h2).mono (.refl _ _) (Pre.snoc _ _) rfl
    · have hj' : j = st.length := by
        have := (List.getElem?_eq_some_iff.1 h2).1
        simp at this; omega
      subst hj'
      rw [List.getElem?_append_right (by simp)] at h2
      rw [List.getElem?_append_right (by omega)] at h1
      simp [hlen] at h1 h2
      subst h1 h2
      exact hy
  · intro j c h1 l1
    rcases hget h1 l1 with ⟨n1, m1, b1, v1⟩ | ⟨n1, b1⟩
    · exact hi.notA j c b1 v1
    · subst b1; exact hi.notA i _ hb ⟨x, hx, hxl⟩
  · intro j c h1 l1
    rcases hget h1 l1 with ⟨n1, m1, b1, v1⟩ | ⟨n1, b1⟩
    · exact hi.own j c b1 v1
    · subst b1; exact hi.own i _ hb ⟨x, hx, hxl⟩

theorem RowDen.cells {k : Nat} {xs : List PV} {cs : List Value} (h : RowDen A w k xs cs) (h1 : xs.all (fun x => x.cells.all PV.one) = true) : ∀ u ∈ cs, u.oneCell' = true := by
  intro u hu
  obtain ⟨m, hm⟩ := List.mem_iff_getElem?.1 hu
  obtain ⟨r1, r2, r3⟩ := h
  have hlt := (List.getElem?_eq_some_iff.1 hm).1
  rw [r1] at hlt
  have hk : 0 < k := by rcases Nat.eq_zero_or_pos k with h | h; simp [h] at hlt; exact h
  have hq : m / k < xs.length := Nat.div_lt_of_lt_mul (by rwa [Nat.mul_comm] at hlt)
  have hx : xs[m / k]? = some xs[m / k] := List.getElem?_eq_getElem hq
  have hcl : xs[m / k].cells.length = k := r2 _ (List.getElem_mem hq)
  have hc : xs[m / k].cells[m % k]? = some (xs[m / k].cells[m % k]'(by rw [hcl]; exact Nat.mod_lt _ hk)) := List.getElem?_eq_getElem _
  obtain ⟨v, hv, hd⟩ := r3 _ _ _ _ hx hc
  rw [Nat.mul_comm, Nat.div_add_mod, hm] at hv
  cases hv
  exact one_cell hd (List.all_eq_true.1 (List.all_eq_true.1 h1 _ (List.getElem_mem hq)) _ (List.getElem_mem _))

theorem cap_cut (need old e t : Nat) (h : need ≤ maxLen) : need ≤ (Question.appendCap need old e).cut t ∧ (Question.appendCap need old e).cut t ≤ maxLen := by
  simp only [Question.cut]
  unfold maxLen at h ⊢
  have := Nat.mod_lt t (show 2 ^ 63 - need > 0 by omega)
  omega

/-- What the model's append does where it has to make room. -/
theorem run_grow {T T2 e e2 : TypeId} {s b : Nat} {tie : TypeInfo} {zv : Value} (hu : P.underlying T = some (.slice e)) (hu2 : P.underlying T2 = some (.slice e2)) (hie : P.info? e = some tie) (hs : tie.size = s) (hb : tie.bytes = b) (hz : tie.zero = some zv) (hby : 0 < b)
    {base : Option Addr} {n cap : Nat} {v : Value} {m : Nat} {old new : List Value} (hm : (Builtin.lenOf v).run P w = .ok m w) (hold : ∀ w2 : World, w2.heap = w.heap → (Builtin.firstCells s n (.slice base n cap)).run P w2 = .ok old.toArray w2)
    (hnew : ∀ w2 : World, w2.heap = w.heap → (Builtin.firstCells s m v).run P w2 = .ok new.toArray w2) (hg : cap < n + m) (hbd : (n + m) * b ≤ 140737488355328) (ty : TypeId) :
    (Builtin.append_ #[T, T2] ty #[.slice base n cap, v]).run P w = .ok (.slice (some ⟨w.heap.size, 0, none⟩) (n + m) ((Question.appendCap (n + m) cap e).cut (w.tape w.drawn (Question.appendCap (n + m) cap e))))
      (({ w with drawn := w.drawn + 1 } : World).alloc (.cells (old ++ (new ++ (Builtin.zeroCells zv.cells ((Question.appendCap (n + m) cap e).cut (w.tape w.drawn (Question.appendCap (n + m) cap e)) - (n + m))).toList)).toArray e)) := by
  have hzr : ∀ w', (zeroValue e).run P w' = .ok zv w' := fun w' => by simp [zeroValue, run_info hie, hz]
  have hir : ∀ w', (typeInfo e).run P w' = .ok tie w' := fun w' => run_info hie w'
  have hsr : ∀ w', (sizeOf e).run P w' = .ok s w' := fun w' => run_size (by simp [szOf, hie, hs]) w'
  have hfits : ¬ (Builtin.nextslicecap (n + m) cap * tie.bytes > 2 ^ 48) := by
    have := growslice_fits (need := n + m) (old := cap) (bytes := b) hg hbd
    rw [hb]; omega
  have hbz : ¬ tie.bytes = 0 := by omega
  have hfo : (Question.appendCap (n + m) cap e).forced = false := rfl
  simp only [Builtin.append_, List.getElem?_toArray, List.getElem?_cons_zero, List.getElem?_cons_succ, Sem.run_bind, run_underlying hu, run_underlying hu2, Result.andThen_ok, hsr, Sem.run_pure, Bool.false_eq_true, if_false, hm]
  rw [if_neg (by omega)]
  simp only [Sem.run_bind, hir, Result.andThen_ok, hbz]
  rw [if_neg (by simp)]
  simp only [Sem.run_bind, hir, Result.andThen_ok]
  rw [if_neg hfits]
  simp only [Sem.run_bind, run_choose, hfo, Bool.false_eq_true, if_false, Result.andThen_ok, hir, run_askRoom, hold { w with drawn := w.drawn + 1 } rfl, hnew { w with drawn := w.drawn + 1 } rfl, hzr, Bool.not_false, if_true]
  simp [newRow]
  congr 2
  apply Array.ext'
  simp

/-- Where there is room. -/
theorem run_fit {T T2 e e2 : TypeId} {s : Nat} (hu : P.underlying T = some (.slice e)) (hu2 : P.underlying T2 = some (.slice e2)) (hs : szOf P e = some s)
    {a : Addr} {n cap : Nat} {v : Value} {m : Nat} {new : List Value} (hm : (Builtin.lenOf v).run P w = .ok m w) (hnew : (Builtin.firstCells s m v).run P w = .ok new.toArray w) (hg : n + m ≤ cap) (ty : TypeId) {w' : World}
    (hst : (storeCells (a.add (n * s)) new).run P w = .ok () w') : (Builtin.append_ #[T, T2] ty #[.slice (some a) n cap, v]).run P w = .ok (.slice (some a) (n + m) cap) w' := by
  simp only [Builtin.append_, List.getElem?_toArray, List.getElem?_cons_zero, List.getElem?_cons_succ, Sem.run_bind, run_underlying hu, run_underlying hu2, Result.andThen_ok, run_size hs, Sem.run_pure, Bool.false_eq_true, if_false, hm]
  rw [if_pos hg]
  simp only [Sem.run_bind, hnew, Result.andThen_ok, Bool.not_false, if_true, hst, Sem.run_pure]

theorem run_callb {T T2 : TypeId} {x y : Operand} {ρ : Operand → Value} {r : Result Value} (ho : o.op = .call ⟨.builtin .append, #[x, y], #[T, T2]⟩) (h : (Builtin.append_ #[T, T2] o.type #[ρ x, ρ y]).run P w = r) :
    (execOp ρ o).run P w = r.andThen fun v w' => .ok (.value v) w' := by
  simp only [execOp, ho, Go.resolve, Sem.run_bind, Sem.run_pure, Result.andThen_ok, invoke, builtin]
  have hm : #[x, y].map ρ = #[ρ x, ρ y] := by simp
  rw [hm, h]

/-- What an append asks of the types. -/
structure AppTy (P : Program) (T T2 : TypeId) (s b : Nat) (e : TypeId) (tie : TypeInfo) (zv : Value) : Prop where
  u : P.underlying T = some (.slice e)
  u2 : ∃ e2, P.underlying T2 = some (.slice e2)
  i : P.info? e = some tie
  sz : tie.size = s
  by' : tie.bytes = b
  z : tie.zero = some zv
  zs : zv.cells.size = s

def appOk (tys : List TI) (T T2 s b : Nat) : Bool :=
  match tys[T]?, tys[T2]? with
  | some ⟨.sl e s' b', _, _, _⟩, some ⟨.sl _ _ _, _, _, _⟩ => s' == s && b' == b && decide (0 < b) && (match tys[e]? with | some ⟨_, _, _, some zl⟩ => zl.length == s | _ => false)
  | _, _ => false

theorem appOk_spec (hT : Tys P tys) {T T2 s b : Nat} (h : appOk tys T T2 s b = true) : ∃ e tie zv, AppTy P T T2 s b e tie zv ∧ 0 < b := by
  unfold appOk at h
  split at h
  · rename_i e s' b' z1 z2 z3 e2 s2 b2 y1 y2 y3 ht ht2
    simp only [Bool.and_eq_true, beq_iff_eq, decide_eq_true_eq] at h
    obtain ⟨⟨⟨rfl, rfl⟩, hb⟩, h4⟩ := h
    split at h4
    · rename_i t1 e1 e2' zl hte
      obtain ⟨ti, d, hi1, hu, htk, _⟩ := tyOf_spec (hT _ _ ht)
      obtain ⟨rfl, tie, hie, hse, hbe⟩ := tkOf_sl htk
      obtain ⟨tie', de, hie', hue, htke, hsze, _, hze⟩ := tyOf_spec (hT _ _ hte)
      rw [hie] at hie'
      cases hie'
      obtain ⟨ti2', d2, _, hu2, htk2, _⟩ := tyOf_spec (hT _ _ ht2)
      obtain ⟨rfl, _⟩ := tkOf_sl htk2
      cases hzv : tie.zero with
      | none => simp only [hzv] at hze; cases hze
      | some zv =>
        refine ⟨e, tie, zv, ⟨hu, ⟨_, hu2⟩, hie, hse, hbe, hzv, ?_⟩, hb⟩
        simp only [hzv, zeroOf, Option.some.injEq] at hze
        have : zl.length = s' := by simpa using h4
        rw [← this, hze]; simp
    · cases h4
  · cases h

theorem zeroCells_len (zv : Value) (n : Nat) : (Builtin.zeroCells zv.cells n).toList.length = n * zv.cells.size := by simp [Builtin.zeroCells]

/-- The first cells of an array of the function's own. -/
theorem run_firstm {k : Nat} {xs : List PV} {cap b : Nat} (h : ObjRel A β w b (.arr k xs cap)) (hne : cap ≠ 0) (c : Nat) : ∃ cs : List Value, (∀ w2 : World, w2.heap = w.heap → (Builtin.firstCells k xs.length (.slice (some ⟨b, 0, none⟩) xs.length c)).run P w2 = .ok cs.toArray w2) ∧ RowDen A w k xs cs := by
  obtain ⟨h4, h5, h6, h0⟩ := h
  obtain ⟨vs, T, fr, h1, h2, h3, h7⟩ := h0 hne
  have hle : xs.length * k ≤ cap * k := Nat.mul_le_mul_right _ h4
  refine ⟨vs.take (xs.length * k), fun w2 hw2 => ?_, by simp; omega, h6, fun i x j c hx hc => ?_⟩
  · have hl := run_loadCells_list (P := P) w2 ⟨b, 0, none⟩ (vs.take (xs.length * k)) (fun j v hj => by
      rw [addr_add, Nat.zero_add, cell_same (w := w) (w' := w2) (by rw [hw2]), obj_cell h1]
      rw [List.getElem?_take] at hj
      split at hj
      · exact hj
      · cases hj)
    have hlen : (vs.take (xs.length * k)).length = xs.length * k := by simp; omega
    rw [hlen] at hl
    simpa only [Builtin.firstCells] using hl
  · obtain ⟨v, hv, hd⟩ := h7 i x j c hx hc
    refine ⟨v, ?_, hd⟩
    have hj : j < k := by rw [← h6 x (List.mem_of_getElem? hx)]; exact (List.getElem?_eq_some_iff.1 hc).1
    have hi : i < xs.length := (List.getElem?_eq_some_iff.1 hx).1
    have : (i + 1) * k ≤ xs.length * k := Nat.mul_le_mul_right _ hi
    rw [Nat.add_mul] at this
    rw [List.getElem?_take, if_pos (by omega)]; exact hv

/-- 'append(x, y...)' at an array of the function's own. -/
theorem op_append {K : PV → List PObj → Prop} {T T2 s b i n cap : Nat} {x y : Operand} {xs ys : List PV} (hT : Tys P tys) (ho : o.op = .call ⟨.builtin .append, #[x, y], #[T, T2]⟩) (hk : appOk tys T T2 s b = true) (hx : pe env x = .msl s i 0 n cap) (hst : st[i]? = some (.arr s xs cap)) (hn : n = xs.length) (hy : pe env y = .sl ys)
    (hpos : 0 < ys.length ∨ cap ≠ 0) (hs : ys.all (fun y => y.cells.length == s) = true) (hon : ys.all (fun y => y.cells.all PV.one) = true) (hbd : (xs.length + ys.length) * b ≤ 140737488355328) (hK : ∀ cap', xs.length + ys.length ≤ cap' → cap' ≠ 0 → K (.msl s st.length 0 (xs.length + ys.length) cap') (st.set i .dead ++ [.arr s (xs ++ ys) cap'])) : OpP P Gl B o env st K := by
  obtain ⟨e, tie, zv, ⟨hu, ⟨e2, hu2⟩, hie, hse, hbe, hzv, hzs⟩, hb0⟩ := appOk_spec hT hk
  have hs' : ∀ y ∈ ys, y.cells.length = s := fun y hy => by simpa using List.all_eq_true.1 hs y hy
  subst hn
  intro A w β tmps Q hi he
  have hdx := he.eval [] x
  have hdy := he.eval [] y
  rw [hx] at hdx
  rw [hy] at hdy
  obtain ⟨a, cap2, cs, hv, hf, hrow⟩ := run_first (P := P) hdy hs'
  have hlen := hi.len
  have hil : i < st.length := (List.getElem?_eq_some_iff.1 hst).1
  have hbb : β[i]? = some (β[i]'(by omega)) := List.getElem?_eq_getElem (by omega)
  generalize (β[i]'(by omega)) = bb at hbb
  have hobj := hi.obj i bb _ hbb hst
  have hlenv : (Builtin.lenOf ((⟨tmps.toArray, []⟩ : Act).eval y)).run P w = .ok ys.length w := by rw [hv]; rfl
  have hml : xs.length + ys.length ≤ maxLen := by
    have : (xs.length + ys.length) * 1 ≤ (xs.length + ys.length) * b := Nat.mul_le_mul_left _ hb0
    unfold maxLen; omega
  have hxc : xs.length ≤ cap := hobj.1
  unfold Oper.wp
  by_cases hfit : xs.length + ys.length ≤ cap
  · have hne : cap ≠ 0 := by omega
    obtain ⟨b', hb', hvx⟩ := hdx.msl_inv hne
    rw [hbb] at hb'
    cases hb'
    rw [Nat.zero_mul] at hvx
    have hlive : PObj.live (.arr s xs cap) = true := by cases cap with | zero => exact (hne rfl).elim | succ c => rfl
    have hlive2 : PObj.live (.arr s (xs ++ ys) cap) = true := by cases cap with | zero => exact (hne rfl).elim | succ c => rfl
    obtain ⟨h4, h5, h6, h0⟩ := id hobj
    obtain ⟨vs, T', fr, h1, h2, h3, h7⟩ := h0 hne
    have hcsl : cs.length = ys.length * s := hrow.1
    have hone : ∀ u ∈ cs, u.oneCell' = true := hrow.cells hon
    have hle : xs.length * s + ys.length * s ≤ cap * s := by rw [← Nat.add_mul]; exact Nat.mul_le_mul_right _ hfit
    obtain ⟨w', r1, r2, r3, r4, r5, r6, r7⟩ := run_storeCells (P := P) bb T' fr cs 0 (xs.length * s) vs w h1 (by omega) hone (by rw [h2]; exact h3)
    have hE : Ext A w A w' := ⟨fun _ h => h, fun k hkk => r6 k (fun e => hi.notA i bb hbb ⟨_, hst, hlive⟩ (e ▸ hkk))⟩
    have hx' : ObjRel A β w' bb (.arr s (xs ++ ys) cap) := by
      refine ⟨by simpa using hfit, h5, fun z hz => by rcases List.mem_append.1 hz with hz | hz; exact h6 z hz; exact hs' z hz, fun _ => ⟨_, T', fr, r7, by simp; omega, h3, fun ii z j c hz hc => ?_⟩⟩
      have hjs : j < s := by
        have : z.cells.length = s := by rcases List.mem_append.1 (List.mem_of_getElem? hz) with hz | hz; exact h6 z hz; exact hs' z hz
        rw [← this]; exact (List.getElem?_eq_some_iff.1 hc).1
      rw [Nat.add_zero]
      by_cases hii : ii < xs.length
      · rw [List.getElem?_append_left hii] at hz
        obtain ⟨v, hv, hd⟩ := h7 ii z j c hz hc
        have : (ii + 1) * s ≤ xs.length * s := Nat.mul_le_mul_right _ hii
        rw [Nat.add_mul] at this
        refine ⟨v, ?_, hd.mono hE (.refl _)⟩
        rw [List.append_assoc, List.getElem?_append_left (by simp; omega), List.getElem?_take, if_pos (by omega)]
        exact hv
      · rw [List.getElem?_append_right (by omega)] at hz
        obtain ⟨v, hv, hd⟩ := hrow.2.2 _ z j c hz hc
        have hik : ii * s = xs.length * s + (ii - xs.length) * s := by rw [← Nat.add_mul]; congr 1; omega
        have hlt := (List.getElem?_eq_some_iff.1 hv).1
        refine ⟨v, ?_, hd.mono hE (.refl _)⟩
        rw [List.getElem?_append_left (by simp; omega), List.getElem?_append_right (by simp; omega)]
        rw [← hv]
        congr 1
        simp; omega
    obtain ⟨hi', hE'⟩ := hi.write hbb hst hlive r2 r3 r4 r5 r6 hx'
    have hmv := hi'.move (i := i) (b := bb) (x := .arr s (xs ++ ys) cap) (y := .arr s (xs ++ ys) cap) hbb (by rw [List.getElem?_set_self hil]) hlive2 (hx'.mono (.refl _ _) (Pre.snoc _ _) rfl)
    rw [List.set_set] at hmv
    have hrun := run_fit (P := P) (w := w) hu hu2 (by simp [szOf, hie, hse]) (a := ⟨bb, 0, none⟩) (n := xs.length) (cap := cap) hlenv (hf w rfl) hfit o.type (w' := w') (by rw [addr_add, Nat.zero_add]; exact r1)
    rw [run_callb (o := o) ho rfl, hvx, hrun]
    refine ⟨_, _, _, A, β ++ [bb], rfl, hK cap hfit hne, ?_, hmv, hE', Pre.snoc _ _⟩
    have : Den A w' (β ++ [bb]) (.msl s st.length 0 (xs.length + ys.length) cap) (.slice (some ⟨bb, 0 * s, none⟩) (xs.length + ys.length) cap) := .msl _ _ _ _ _ _ _ (by rw [← hlen]; simp)
    rwa [Nat.zero_mul] at this
  · have hold : ∃ (base : Option Addr) (old : List Value), (⟨tmps.toArray, []⟩ : Act).eval x = .slice base xs.length cap ∧ (∀ w2 : World, w2.heap = w.heap → (Builtin.firstCells s xs.length (.slice base xs.length cap)).run P w2 = .ok old.toArray w2) ∧ RowDen A w s xs old := by
      by_cases hne : cap = 0
      · subst hne
        have : xs = [] := List.eq_nil_of_length_eq_zero (by omega)
        subst this
        obtain ⟨a, ha⟩ := hdx.msl_any
        refine ⟨a, [], ha, fun w2 _ => ?_, RowDen.nil s⟩
        cases a <;> simp [Builtin.firstCells, loadCells, loadCellsFrom]
      · obtain ⟨b', hb', hvx⟩ := hdx.msl_inv hne
        rw [hbb] at hb'
        cases hb'
        rw [Nat.zero_mul] at hvx
        obtain ⟨old, h1, h2⟩ := run_firstm (P := P) hobj hne cap
        exact ⟨_, old, hvx, h1, h2⟩
    obtain ⟨base, old, hvx, hold, hrow0⟩ := hold
    have hg := run_grow (P := P) (w := w) hu hu2 hie hse hbe hzv hb0 (base := base) (n := xs.length) (cap := cap) (v := (⟨tmps.toArray, []⟩ : Act).eval y) (m := ys.length) (old := old) (new := cs) hlenv hold hf (by omega) hbd o.type
    obtain ⟨hc1, hc2⟩ := cap_cut (xs.length + ys.length) cap e (w.tape w.drawn (Question.appendCap (xs.length + ys.length) cap e)) hml
    generalize (Question.appendCap (xs.length + ys.length) cap e).cut (w.tape w.drawn (Question.appendCap (xs.length + ys.length) cap e)) = cap' at *
    rw [run_callb (o := o) ho rfl, hvx, hg]
    have hE : Ext A w A { w with drawn := w.drawn + 1 } := ⟨fun _ h => h, fun _ _ => rfl⟩
    have hi1 := (hi.weaken (StLe.kill st i)).drew
    have hE2 := hi1.ext_alloc (.cells (old ++ (cs ++ (Builtin.zeroCells zv.cells (cap' - (xs.length + ys.length))).toList)).toArray e)
    refine ⟨_, _, _, A, β ++ [w.heap.size], rfl, hK cap' hc1 (by omega), ?_, hi1.snoc _ _ (arr_of_row (T := e) (cs := old ++ cs) (zs := (Builtin.zeroCells zv.cells (cap' - (xs.length + ys.length))).toList) ?_ (((hrow0.append hrow).mono hE).mono hE2) ?_ (by simpa using hc1) hc2), hE.trans hE2, Pre.snoc _ _⟩
    · have : Den A (({ w with drawn := w.drawn + 1 } : World).alloc (.cells (old ++ (cs ++ (Builtin.zeroCells zv.cells (cap' - (xs.length + ys.length))).toList)).toArray e)) (β ++ [w.heap.size]) (.msl s st.length 0 (xs.length + ys.length) cap') (.slice (some ⟨w.heap.size, 0 * s, none⟩) (xs.length + ys.length) cap') := .msl _ _ _ _ _ _ _ (by rw [← hlen]; simp)
      rwa [Nat.zero_mul] at this
    · show (w.heap.push _)[w.heap.size]? = _
      simp
    · rw [List.length_append, List.length_append, zeroCells_len, hrow0.1, hrow.1, hzs, ← Nat.add_mul, ← Nat.add_mul]
      congr 1
      omega

/-! ### an object put back to a place that stands free -/
def wipe (d : Nat → Bool) (p : PV) : PV := match p.refs d 5 with | true => p | false => .any
def PObj.wipe (d : Nat → Bool) : PObj → PObj
  | .box cs => .box (cs.map (Pw.wipe d))
  | .map es => .map (es.map fun e => (e.1, Pw.wipe d e.2))
  | o => o
def dOf (st : List PObj) (i : Nat) : Bool := ((st[i]?).map PObj.stays).getD false

theorem Den.wipe {d : Nat → Bool} {β' : List Nat} (hr : ∀ (i b : Nat), d i = true → β[i]? = some b → β'[i]? = some b) {p : PV} {v : Value} (h : Den A w β p v) : Den A w β' (Pw.wipe d p) v := by
  unfold Pw.wipe
  split
  · rename_i hp
    have := h.ren (β' := β') (d := d) (r := fun i => i) hr 5 hp
    rwa [PV.ren_id] at this
  · exact .any ..

theorem PObj.wipe_live (d : Nat → Bool) (o : PObj) : (o.wipe d).live = o.live := by cases o <;> rfl

theorem Inv.back {β2 : List Nat} {i L b : Nat} {x : PObj} (hi : Inv Gl B A w β2 (st ++ [x])) (hL : st.length = L) (hil : i < L) (_hdead : ∀ y, st[i]? = some y → y.live = false) (hb : β2[L]? = some b) (hx : ∀ d, x.wipe d = x) (hx' : ∀ β', ObjRel A β2 w b x → ObjRel A β' w b x) (hB : ∀ j, B.D j = true → j < L ∧ j ≠ i) :
    Inv Gl B A w ((β2.take L).set i b) ((st.map (PObj.wipe fun j => decide (j < L) && j != i)).set i x) := by
  have hlen : β2.length = L + 1 := by rw [hi.len]; simp [hL]
  have hg : ∀ {j c : Nat}, ((β2.take L).set i b)[j]? = some c → (j = i ∧ c = b) ∨ (j ≠ i ∧ j < L ∧ β2[j]? = some c) := by
    intro j c h
    rw [List.getElem?_set] at h
    split at h
    · rename_i e
      split at h
      · cases h; exact .inl ⟨e.symm, rfl⟩
      · cases h
    · rename_i e
      rw [List.getElem?_take] at h
      split at h
      · exact .inr ⟨fun h => e h.symm, by assumption, h⟩
      · cases h
  have hs : ∀ {j : Nat} {o : PObj}, ((st.map (PObj.wipe fun j => decide (j < L) && j != i)).set i x)[j]? = some o → (j = i ∧ o = x) ∨ (j ≠ i ∧ j < L ∧ ∃ y, (st ++ [x])[j]? = some y ∧ o = y.wipe fun j => decide (j < L) && j != i) := by
    intro j o h
    rw [List.getElem?_set] at h
    split at h
    · rename_i e
      split at h
      · cases h; exact .inl ⟨e.symm, rfl⟩
      · cases h
    · rename_i e
      rw [List.getElem?_map] at h
      cases hy : st[j]? with
      | none => rw [hy] at h; cases h
      | some y =>
        rw [hy] at h
        cases h
        have hj := (List.getElem?_eq_some_iff.1 hy).1
        exact .inr ⟨fun h => e h.symm, by omega, y, by rw [List.getElem?_append_left hj]; exact hy, rfl⟩
  have hxL : (st ++ [x])[L]? = some x := by rw [← hL]; simp
  have lv : ∀ {j c : Nat}, ((β2.take L).set i b)[j]? = some c → liveAt ((st.map (PObj.wipe fun j => decide (j < L) && j != i)).set i x) j → ∃ k, β2[k]? = some c ∧ liveAt (st ++ [x]) k ∧ ((j = i ∧ k = L) ∨ (j ≠ i ∧ k = j ∧ j < L)) := by
    intro j c h ⟨o, ho, hl⟩
    rcases hg h with ⟨e1, e2⟩ | ⟨e1, e2, e3⟩ <;> rcases hs ho with ⟨f1, f2⟩ | ⟨f1, f2, y, f3, f4⟩
    · subst e2 f2; exact ⟨L, hb, ⟨_, hxL, hl⟩, .inl ⟨e1, rfl⟩⟩
    · exact (f1 e1).elim
    · exact (e1 f1).elim
    · subst f4; rw [PObj.wipe_live] at hl; exact ⟨j, e3, ⟨y, f3, hl⟩, .inr ⟨e1, rfl, e2⟩⟩
  refine ⟨by simp [hL, hlen], ?_, ?_, ?_, ?_, hi.lt, hi.new, hi.old, hi.size, hi.os, hi.tape, hi.output, hi.keep, hi.glob, ?_, hi.apart⟩
  · intro j k c h1 h2 l1 l2
    obtain ⟨j', b1, v1, e1⟩ := lv h1 l1
    obtain ⟨k', b2, v2, e2⟩ := lv h2 l2
    have := hi.inj j' k' c b1 b2 v1 v2
    omega
  · intro j c o h1 h2
    rcases hg h1 with ⟨e1, e2⟩ | ⟨e1, e2, e3⟩ <;> rcases hs h2 with ⟨f1, f2⟩ | ⟨f1, f2, y, f3, f4⟩
    · subst e2 f2; exact hx' _ (hi.obj L _ _ hb hxL)
    · exact (f1 e1).elim
    · exact (e1 f1).elim
    · subst f4
      have ho := hi.obj j c y e3 f3
      have hr : ∀ (k b' : Nat), (decide (k < L) && k != i) = true → β2[k]? = some b' → ((β2.take L).set i b)[k]? = some b' := by
        intro k b' hk hb'
        simp only [Bool.and_eq_true, decide_eq_true_eq, bne_iff_ne, ne_eq] at hk
        rw [List.getElem?_set, if_neg (fun e => hk.2 e.symm), List.getElem?_take, if_pos hk.1]; exact hb'
      cases y with
      | dead => trivial
      | box cs =>
        obtain ⟨vs, T, fr, g1, g2, g3, g4⟩ := ho
        refine ⟨vs, T, fr, g1, by simpa using g2, by simpa using g3, fun m c v hc hv => ?_⟩
        rw [List.getElem?_map] at hc
        cases hz : cs[m]? with
        | none => rw [hz] at hc; cases hc
        | some z => rw [hz] at hc; cases hc; exact (g4 m z v hz hv).wipe hr
      | arr k xs cap => exact ho
      | map es =>
        obtain ⟨mes, cl, g1, g2, g3⟩ := ho
        refine ⟨mes, cl, g1, by simpa using g2, fun m kk v hm => ?_⟩
        rw [List.getElem?_map] at hm
        cases hz : es[m]? with
        | none => rw [hz] at hm; cases hm
        | some z =>
          rw [hz] at hm
          cases hm
          obtain ⟨e, q1, q2, q3⟩ := g3 m z.1 z.2 hz
          exact ⟨e, q1, q2, q3.wipe hr⟩
  · intro j c h1 l1
    obtain ⟨j', b1, v1, e1⟩ := lv h1 l1
    exact hi.notA j' c b1 v1
  · intro j c h1 l1
    obtain ⟨j', b1, v1, e1⟩ := lv h1 l1
    exact hi.own j' c b1 v1
  · intro j c h1 h2
    obtain ⟨g1, g2⟩ := hB j h1
    rw [List.getElem?_set, if_neg (fun e => g2 e.symm), List.getElem?_take, if_pos g1]
    exact hi.pre j c h1 h2
/-- The base keeps no block of place i, nor of one from n on. -/
def dOk (st0 : List PObj) (i n : Nat) : Bool := (List.range st0.length).all fun j => !(dOf st0 j) || (decide (j < n) && j != i)
theorem dOk_spec {st0 : List PObj} {i n : Nat} (hD : ∀ j, B.D j = dOf st0 j) (h : dOk st0 i n = true) : ∀ j, B.D j = true → j < n ∧ j ≠ i := by
  intro j hj
  rw [hD] at hj
  have hlt : j < st0.length := by
    unfold dOf at hj
    cases hx : st0[j]? with
    | none => rw [hx] at hj; cases hj
    | some x => exact (List.getElem?_eq_some_iff.1 hx).1
  have := List.all_eq_true.1 h j (by simpa using hlt)
  rw [hj] at this
  simpa using this

/-- 'append(x, y...)' at an array of the function's own, which keeps its number. -/
theorem pl_append {T T2 s b i n cap : Nat} {x y : Operand} {xs ys : List PV} {st0 : List PObj} (hT : Tys P tys) (hD : ∀ j, B.D j = dOf st0 j) (hg : o.guard = none) (ho : o.op = .call ⟨.builtin .append, #[x, y], #[T, T2]⟩) (hk : appOk tys T T2 s b = true) (hx : pe env x = .msl s i 0 n cap) (hst : st[i]? = some (.arr s xs cap)) (hn : n = xs.length) (hy : pe env y = .sl ys)
    (hd0 : dOk st0 i st.length = true) (hpos : 0 < ys.length ∨ cap ≠ 0) (hs : ys.all (fun y => y.cells.length == s) = true) (hon : ys.all (fun y => y.cells.all PV.one) = true) (hbd : (xs.length + ys.length) * b ≤ 140737488355328)
    (hr : ∀ cap', xs.length + ys.length ≤ cap' → cap' ≠ 0 → PWL P Gl B ops rest (putE (env.map (wipe fun j => decide (j < st.length) && j != i)) o.dst (.msl s i 0 (xs.length + ys.length) cap')) ((st.map (PObj.wipe fun j => decide (j < st.length) && j != i)).set i (.arr s (xs ++ ys) cap')) Q) :
    PWL P Gl B ops (o :: rest) env st Q := fun A w β tmps hi he => by
  unfold wpList
  rw [if_pos (by simp [Region.wanted, hg])]
  refine .inl (Oper.wp_mono ?_ (op_append (K := fun x st' => ∃ cap', xs.length + ys.length ≤ cap' ∧ cap' ≠ 0 ∧ x = .msl s st.length 0 (xs.length + ys.length) cap' ∧ st' = st.set i .dead ++ [.arr s (xs ++ ys) cap']) hT ho hk hx hst hn hy hpos hs hon hbd (fun cap' h1 h2 => ⟨cap', h1, h2, rfl, rfl⟩) A w β tmps _ hi he))
  rintro a' w' ⟨v, x', st', A', β', rfl, ⟨cap', h1, h2, rfl, rfl⟩, hd, hi', hE, hβ⟩
  rw [put_tmps]
  have hil : i < st.length := (List.getElem?_eq_some_iff.1 hst).1
  have hlen : β'.length = st.length + 1 := by rw [hi'.len]; simp
  have hb : β'[st.length]? = some (β'[st.length]'(by omega)) := List.getElem?_eq_getElem (by omega)
  obtain ⟨b', hb', hv⟩ := hd.msl_inv h2
  have hbk := hi'.back (i := i) (L := st.length) (b := b') (by simp) hil (by intro y hy; rw [List.getElem?_set_self hil] at hy; cases hy; rfl) hb' (fun _ => rfl) (fun _ h => h) (dOk_spec hD hd0)
  have hw : ((st.set i PObj.dead).map (PObj.wipe fun j => decide (j < st.length) && j != i)).set i (.arr s (xs ++ ys) cap') = (st.map (PObj.wipe fun j => decide (j < st.length) && j != i)).set i (.arr s (xs ++ ys) cap') := by
    rw [List.map_set, List.set_set]
  rw [hw] at hbk
  have hr0 : ∀ (k c : Nat), (decide (k < st.length) && k != i) = true → β'[k]? = some c → ((β'.take st.length).set i b')[k]? = some c := by
    intro k c hk hc
    simp only [Bool.and_eq_true, decide_eq_true_eq, bne_iff_ne, ne_eq] at hk
    rw [List.getElem?_set, if_neg (fun e => hk.2 e.symm), List.getElem?_take, if_pos hk.1]; exact hc
  refine hr cap' h1 h2 A' w' _ _ hbk (EnvRel.put ⟨by simpa using he.1, fun m p u hp hu => ?_⟩ o.dst ?_)
  · rw [List.getElem?_map] at hp
    cases hz : env[m]? with
    | none => rw [hz] at hp; cases hp
    | some z => rw [hz] at hp; cases hp; exact ((he.2 m z u hz hu).mono hE hβ).wipe hr0
  · rw [hv]
    exact .msl _ _ _ _ _ _ _ (by rw [List.getElem?_set_self (by simp; omega)])
end rules
end Go.Pw
namespace Go.Pw
open Go

/-- y says what x says once the arrays F of the store never change any more, or less. -/
def FLe (F : Nat → Bool) (st : List PObj) : Nat → PV → PV → Prop
  | 0, x, y => x = y
  | n + 1, x, y => y = .any ∨ x = y ∨ (x = .nilsl ∧ y = .sl []) ∨ (∃ k i m cap k' xs, x = .msl k i 0 m cap ∧ F i = true ∧ st[i]? = some (.arr k' xs cap) ∧ m = xs.length ∧ y = .sl xs) ∨ (∃ cs ds, x = .agg cs ∧ y = .agg ds ∧ LeBy (FLe F st n) cs ds) ∨ (∃ cs ds, x = .tup cs ∧ y = .tup ds ∧ LeBy (FLe F st n) cs ds)
def FOb (F : Nat → Bool) (st : List PObj) (x y : PObj) : Prop := y = .dead ∨ x = y ∨ ∃ cs ds, x = .box cs ∧ y = .box ds ∧ LeBy (FLe F st 3) cs ds
def FSt (F : Nat → Bool) (st : List PObj) : Nat → List PObj → List PObj → Prop
  | _, [], [] => True
  | i, x :: xs, y :: ys => (match F i with | true => y = .dead | false => FOb F st x y) ∧ FSt F st (i + 1) xs ys
  | _, _, _ => False

theorem FSt.len {F : Nat → Bool} {st : List PObj} : ∀ {i : Nat} {xs ys : List PObj}, FSt F st i xs ys → xs.length = ys.length
  | _, [], [], _ => rfl
  | _, _ :: _, _ :: _, ⟨_, h⟩ => by simp [FSt.len h]
theorem FSt.get {F : Nat → Bool} {st : List PObj} : ∀ {i : Nat} {xs ys : List PObj}, FSt F st i xs ys → ∀ (j : Nat) (y : PObj), ys[j]? = some y → ∃ x, xs[j]? = some x ∧ (F (i + j) = true ∧ y = .dead ∨ F (i + j) = false ∧ FOb F st x y)
  | i, [], [], _, j, y, h => by simp at h
  | i, x :: xs, y :: ys, ⟨h1, h2⟩, 0, z, h => by
    simp at h; subst h
    refine ⟨x, rfl, ?_⟩
    rw [Nat.add_zero]
    cases hF : F i with
    | true => rw [hF] at h1; exact .inl ⟨rfl, h1⟩
    | false => rw [hF] at h1; exact .inr ⟨rfl, h1⟩
  | i, x :: xs, y :: ys, ⟨h1, h2⟩, j + 1, z, h => by
    have := FSt.get h2 j z (by simpa using h)
    rw [show i + 1 + j = i + (j + 1) by omega] at this
    simpa using this
theorem FSt.snoc_dead {F : Nat → Bool} {st : List PObj} : ∀ {i : Nat} {xs ys : List PObj} (zs : List PObj), FSt F st i xs ys → FSt F st i (xs ++ zs) (ys ++ zs.map fun _ => .dead)
  | i, [], [], zs, _ => by
    induction zs generalizing i with
    | nil => trivial
    | cons z zs ih =>
      refine ⟨?_, ih _ trivial⟩
      cases F i
      · exact .inl rfl
      · rfl
  | i, x :: xs, y :: ys, zs, ⟨h1, h2⟩ => ⟨h1, h2.snoc_dead zs⟩

section rules
variable {P : Program} {Gl : Glob} {B : Base} {tys : List TI} {env : List PV} {st : List PObj} {Q : Post} {A : Nat → Prop} {w : World} {β : List Nat} {tmps : List Value}

theorem Inv.freeze (hi : Inv Gl B A w β st) (F : Nat → Bool) : ∃ A', Ext A w A' w ∧ (∀ n p q v, FLe F st n p q → Den A w β p v → Den A' w β q v) ∧ ∀ st', FSt F st 0 st st' → Inv Gl B A' w β st' := by
  let A' : Nat → Prop := fun b => A b ∨ ∃ i, F i = true ∧ β[i]? = some b ∧ liveAt st i
  have hE : Ext A w A' w := ⟨fun _ h => .inl h, fun _ _ => rfl⟩
  have hden : ∀ n p q v, FLe F st n p q → Den A w β p v → Den A' w β q v := by
    intro n
    induction n with
    | zero => intro p q v h hd; simp only [FLe] at h; subst h; exact hd.mono hE (.refl _)
    | succ n ih =>
      intro p q v h hd
      simp only [FLe] at h
      rcases h with rfl | rfl | ⟨rfl, rfl⟩ | ⟨k, i, m, cap, k', xs, rfl, hF, hst, rfl, rfl⟩ | ⟨cs, ds, rfl, rfl, hl⟩ | ⟨cs, ds, rfl, rfl, hl⟩
      · exact .any ..
      · exact hd.mono hE (.refl _)
      · cases hd; exact .slnil ..
      · have hil : i < β.length := by rw [hi.len]; exact (List.getElem?_eq_some_iff.1 hst).1
        have hb : β[i]? = some β[i] := List.getElem?_eq_getElem hil
        obtain ⟨h1, h2, h3, h0⟩ := hi.obj i _ _ hb hst
        by_cases hc : cap = 0
        · subst hc
          have : xs = [] := List.eq_nil_of_length_eq_zero (by omega)
          subst this
          obtain ⟨a, rfl⟩ := hd.msl_any
          cases a with
          | none => exact .slnil ..
          | some a => exact .sl _ 0 [] a 0 (fun _ _ => undef) (fun h => (h rfl).elim) (Nat.le_refl _) (Nat.zero_le _) (by intro x hx; cases hx) (by intro i x j c hx; simp at hx) (by intro i x j c hx; simp at hx)
        · obtain ⟨b, hb', rfl⟩ := hd.msl_inv hc
          rw [hb] at hb'
          cases hb'
          obtain ⟨vs, T, fr, g1, g2, g3, g4⟩ := h0 hc
          have hlive : liveAt st i := ⟨_, hst, by cases cap with | zero => exact (hc rfl).elim | succ c => rfl⟩
          refine .sl _ k' xs _ cap (fun i j => vs.getD (i * k' + j) undef) (fun _ => ⟨.inr ⟨i, hF, hb, hlive⟩, rfl⟩) h1 h2 h3 (fun e x j c hx hc => ?_) (fun e x j c hx hc => ?_)
          · obtain ⟨u, hu, _⟩ := g4 e x j c hx hc
            rw [obj_cell g1, Nat.zero_mul, Nat.zero_add, hu]
            simp only [List.getD, hu, Option.getD_some]
          · obtain ⟨u, hu, hd⟩ := g4 e x j c hx hc
            simp only [List.getD, hu, Option.getD_some]
            exact hd.mono hE (.refl _)
      · cases hd with
        | agg _ _ vs h1 h2 =>
          refine .agg _ _ _ (hl.len ▸ h1) fun j c u hc hu => ?_
          obtain ⟨q, hq, hr⟩ := hl.get j c hc
          exact ih q c u hr (h2 j q u hq hu)
      · cases hd with
        | tup _ _ vs h1 h2 =>
          refine .tup _ _ _ (hl.len ▸ h1) fun j c u hc hu => ?_
          obtain ⟨q, hq, hr⟩ := hl.get j c hc
          exact ih q c u hr (h2 j q u hq hu)
  refine ⟨A', hE, hden, fun st' hs => ?_⟩
  have lv : ∀ {i : Nat}, liveAt st' i → liveAt st i ∧ F i = false := fun {i} ⟨o, h1, h2⟩ => by
    obtain ⟨x, hx, hr⟩ := hs.get i o h1
    rw [Nat.zero_add] at hr
    rcases hr with ⟨_, rfl⟩ | ⟨hF, rfl | rfl | ⟨cs, ds, rfl, rfl, _⟩⟩
    · cases h2
    · cases h2
    · exact ⟨⟨_, hx, h2⟩, hF⟩
    · exact ⟨⟨_, hx, rfl⟩, hF⟩
  refine ⟨hi.len.trans hs.len, fun i j b h1 h2 l1 l2 => hi.inj i j b h1 h2 (lv l1).1 (lv l2).1, fun i b o h1 h2 => ?_, fun i b h1 l1 hA => ?_, fun i b h1 l1 => hi.own i b h1 (lv l1).1, fun b hb => ?_, fun b hb => ?_, fun b hb => .inl (hi.old b hb), hi.size, hi.os, hi.tape, hi.output, hi.keep, hi.glob, hi.pre, hi.apart⟩
  · obtain ⟨x, hx, hr⟩ := hs.get i o h2
    have hob := hi.obj i b x h1 hx
    rcases hr with ⟨_, rfl⟩ | ⟨hF, rfl | rfl | ⟨cs, ds, rfl, rfl, hl⟩⟩
    · trivial
    · trivial
    · exact hob.mono hE (.refl _) rfl
    · obtain ⟨vs, T, fr, g1, g2, g3, g4⟩ := hob
      refine ⟨vs, T, fr, g1, g2.trans hl.len, hl.len ▸ g3, fun j c v hc hv => ?_⟩
      obtain ⟨q, hq, hr⟩ := hl.get j c hc
      exact hden 3 _ _ _ hr (g4 j q v hq hv)
  · rcases hA with hA | ⟨j, hF, hb, hl⟩
    · exact hi.notA i b h1 (lv l1).1 hA
    · have := hi.inj i j b h1 hb (lv l1).1 hl
      subst this
      rw [(lv l1).2] at hF
      cases hF
  · rcases hb with hb | ⟨j, hF, hb, o, ho, hl⟩
    · exact hi.lt b hb
    · exact (hi.obj j b o hb ho).lt hl
  · rcases hb with hb | ⟨j, hF, hb, hl⟩
    · exact hi.new b hb
    · exact .inr (hi.own j b hb hl)

/-- Arrays of the function's own are given up for rows. -/
theorem pw_freeze (F : Nat → Bool) {c : Code} {env' : List PV} {st' : List PObj} (hs : FSt F st 0 st st') (he' : LeBy (FLe F st 3) env env') (h : PW P Gl B c env' st' Q) : PW P Gl B c env st Q := fun A w β tmps hi he => by
  obtain ⟨A', hE, hden, hi'⟩ := hi.freeze F
  refine h A' w β tmps (hi' st' hs) ⟨he'.len.symm.trans he.1, fun i p v hp hv => ?_⟩
  obtain ⟨q, hq, hr⟩ := he'.get i p hp
  exact hden 3 q p v hr (he.2 i q v hq hv)

/-- A nil slice is an array of the function's own that has no room yet. -/
theorem pw_ghost (k : Nat) {c : Code} (h : PW P Gl B c env (st ++ [.arr k [] 0]) Q) : PW P Gl B c env st Q := fun A w β tmps hi he => by
  have hlen := hi.len
  have nl : ∀ {i : Nat}, liveAt (st ++ [.arr k [] 0]) i → liveAt st i := fun {i} ⟨o, h1, h2⟩ => by
    by_cases hl : i < st.length
    · rw [List.getElem?_append_left hl] at h1; exact ⟨o, h1, h2⟩
    · rw [List.getElem?_append_right (by omega)] at h1
      cases hk : i - st.length with
      | zero => rw [hk] at h1; simp at h1; subst h1; cases h2
      | succ n => rw [hk] at h1; simp at h1
  have gl : ∀ {i b : Nat}, (β ++ [0])[i]? = some b → liveAt (st ++ [.arr k [] 0]) i → β[i]? = some b := fun {i b} h1 l => by
    have hl : i < st.length := by obtain ⟨o, ho, _⟩ := nl l; exact (List.getElem?_eq_some_iff.1 ho).1
    rwa [List.getElem?_append_left (by omega)] at h1
  refine h A w (β ++ [0]) tmps ⟨by simp [hlen], fun i j b h1 h2 l1 l2 => hi.inj i j b (gl h1 l1) (gl h2 l2) (nl l1) (nl l2), fun i b o h1 h2 => ?_, fun i b h1 l1 => hi.notA i b (gl h1 l1) (nl l1), fun i b h1 l1 => hi.own i b (gl h1 l1) (nl l1), hi.lt, hi.new, hi.old, hi.size, hi.os, hi.tape, hi.output, hi.keep, hi.glob, fun i b h1 h2 => Pre.snoc _ _ _ _ (hi.pre i b h1 h2), hi.apart⟩ (he.mono (.refl _ _) (Pre.snoc _ _))
  by_cases hl : i < st.length
  · rw [List.getElem?_append_left (by omega)] at h1 h2
    exact (hi.obj i b o h1 h2).mono (.refl _ _) (Pre.snoc _ _) rfl
  · rw [List.getElem?_append_right (by omega)] at h2
    cases hk : i - st.length with
    | zero => rw [hk] at h2; simp at h2; subst h2; exact ⟨Nat.le_refl _, Nat.zero_le _, (by intro x hx; cases hx), fun h => (h rfl).elim⟩
    | succ n => rw [hk] at h2; simp at h2

/-- What a function's body is to end with: arrays behind the first n objects become rows, and what lies behind is given up. -/
def retF (tys : List TI) (rs : List ResultVar) (n : Nat) (Q : PV → List PObj → Prop) : Post
  | .normal, env, st | .ret, env, st => ∃ r r' st', resP tys env st rs = some r ∧ Q r' st' ∧ FLe (fun i => decide (n ≤ i)) st 3 r r' ∧ FSt (fun i => decide (n ≤ i)) st 0 (st.take n) st' ∧ r'.refs (fun i => decide (i < n)) 5 = true ∧ st'.all (PObj.refs (fun i => decide (i < n)) 5) = true
  | _, _, _ => False

theorem PCalls.of {f : FuncId} {fn : Func} {c : Code} {args : List PV} {Q : PV → List PObj → Prop} (hT : Tys P tys) (hf : P.funcs[f]? = some fn) (hb : fn.body = some c) (n : Nat) (hn : st.length ≤ n)
    (h : ∀ B, (∀ j, B.D j = dOf st j) → PW P Gl B c (args ++ List.replicate (fn.ntmps - args.length) .any) st (retF tys fn.results.toList n Q)) : PCalls P Gl f args st Q := fun A w β vals hi ha => by
  refine calls_of_wp hf hb ?_
  have hfr : vals.toArray ++ Array.replicate (fn.ntmps - vals.toArray.size) undef = (vals ++ List.replicate (fn.ntmps - args.length) undef).toArray := by
    rw [ha.1]; simp
  rw [hfr]
  have he : EnvRel A w β (args ++ List.replicate (fn.ntmps - args.length) .any) (vals ++ List.replicate (fn.ntmps - args.length) undef) := by
    refine ⟨by simp [ha.1], fun i p v hp hv => ?_⟩
    by_cases hi' : i < args.length
    · rw [List.getElem?_append_left hi'] at hp
      rw [List.getElem?_append_left (by rw [← ha.1]; exact hi')] at hv
      exact ha.2 i p v hp hv
    · rw [List.getElem?_append_right (by omega), List.getElem?_replicate] at hp
      split at hp
      · cases hp; exact .any ..
      · cases hp
  refine wp_mono (h _ (fun _ => rfl) A w β _ hi he) ?_
  rintro e a' w' ⟨env', st', A', β', t', rfl, h2, h3, h4⟩
  have fin : (∃ r r' st'', resP tys env' st' fn.results.toList = some r ∧ Q r' st'' ∧ FLe (fun i => decide (n ≤ i)) st' 3 r r' ∧ FSt (fun i => decide (n ≤ i)) st' 0 (st'.take n) st'' ∧ r'.refs (fun i => decide (i < n)) 5 = true ∧ st''.all (PObj.refs (fun i => decide (i < n)) 5) = true) →
      ∃ v, (results fn (⟨t'.toArray, []⟩ : Act).tmps).run P w' = .ok v w' ∧ PRet Gl (base0 A w β st) Q (.returned v) w' := by
    rintro ⟨r, r', st'', g1, g2, g3, g4, g5, g6⟩
    obtain ⟨v, hv, hd⟩ := resP_sound hT h3 h4 g1
    obtain ⟨A2, hE, hden, hinv⟩ := h3.freeze fun i => decide (n ≤ i)
    have hfull := g4.snoc_dead (st'.drop n)
    rw [List.take_append_drop] at hfull
    have h5 := hinv _ hfull
    have hl : st''.length = min n st'.length := by rw [← g4.len]; simp
    by_cases hnl : n ≤ st'.length
    · have ht : (st'' ++ (st'.drop n).map fun _ => PObj.dead).take n = st'' := by
        rw [List.take_append, List.take_of_length_le (by omega), show n - st''.length = 0 by omega]; simp
      have h6 := h5.take n 5 (by show β.length ≤ n; have := hi.len; omega) (by rw [ht]; exact g6)
      rw [ht] at h6
      exact ⟨v, hv, r', v, st'', A2, β'.take n, rfl, g2, (hden 3 r r' v g3 hd).refsBelow g5, h6⟩
    · have ht : (st'' ++ (st'.drop n).map fun _ => PObj.dead) = st'' := by
        rw [List.drop_eq_nil_of_le (by omega)]; simp
      rw [ht] at h5
      exact ⟨v, hv, r', v, st'', A2, β', rfl, g2, hden 3 r r' v g3 hd, h5⟩
  cases e with
  | normal => exact ⟨rfl, fin h2⟩
  | ret => exact ⟨rfl, fin h2⟩
  | _ => exact h2.elim
end rules
end Go.Pw
namespace Go.Pw
open Go

section
variable {P : Program} {Gl : Glob} {B : Base} {tys : List TI} {env : List PV} {st : List PObj} {A : Nat → Prop} {w : World} {β β' : List Nat}

/-- Whether the callee's object j keeps its place. -/
def keepsAt (sel : List Nat) (st : List PObj) (j : Nat) : Bool := decide (j < sel.length) && (st.getD (sel.getD j 0) .dead).stays
def idxOutA (sel : List Nat) (st : List PObj) (j : Nat) : Nat := match keepsAt sel st j with | true => sel.getD j 0 | false => st.length + j
def mergeAuxA (sel : List Nat) (st' : List PObj) : Nat → List PObj → List PObj
  | _, [] => []
  | i, x :: xs => (match sel.contains i with | true => (match x.stays with | true => st'.getD (sel.idxOf i) .dead | false => .dead) | false => x) :: mergeAuxA sel st' (i + 1) xs
def newAux (sel : List Nat) (st : List PObj) : Nat → List PObj → List PObj
  | _, [] => []
  | j, y :: ys => (match keepsAt sel st j with | true => .dead | false => y) :: newAux sel st (j + 1) ys
def mergeA (sel : List Nat) (st st' : List PObj) : List PObj := mergeAuxA sel st' 0 st ++ newAux sel st 0 st'

theorem mergeAuxA_get (sel : List Nat) (st' : List PObj) : ∀ (st : List PObj) (k i : Nat), (mergeAuxA sel st' k st)[i]? = (st[i]?).map fun x => match sel.contains (k + i) with | true => (match x.stays with | true => st'.getD (sel.idxOf (k + i)) .dead | false => .dead) | false => x
  | [], k, i => by simp [mergeAuxA]
  | x :: st, k, 0 => by simp [mergeAuxA]
  | x :: st, k, i + 1 => by
    simp only [mergeAuxA, List.getElem?_cons_succ, mergeAuxA_get sel st' st (k + 1) i]
    rw [show k + 1 + i = k + (i + 1) by omega]
theorem mergeAuxA_len (sel : List Nat) (st' : List PObj) : ∀ (st : List PObj) (k : Nat), (mergeAuxA sel st' k st).length = st.length
  | [], _ => rfl
  | _ :: st, k => by simp [mergeAuxA, mergeAuxA_len sel st' st (k + 1)]
theorem newAux_get (sel : List Nat) (st : List PObj) : ∀ (st' : List PObj) (k j : Nat), (newAux sel st k st')[j]? = (st'[j]?).map fun y => match keepsAt sel st (k + j) with | true => .dead | false => y
  | [], k, j => by simp [newAux]
  | y :: st', k, 0 => by simp [newAux]
  | y :: st', k, j + 1 => by
    simp only [newAux, List.getElem?_cons_succ, newAux_get sel st st' (k + 1) j]
    rw [show k + 1 + j = k + (j + 1) by omega]
theorem newAux_len (sel : List Nat) (st : List PObj) : ∀ (st' : List PObj) (k : Nat), (newAux sel st k st').length = st'.length
  | [], _ => rfl
  | _ :: st', k => by simp [newAux, newAux_len sel st st' (k + 1)]

/-- The function that a call enters, and its arguments. -/
def calleeP (f : PV) (args : List PV) : Option (FuncId × List PV) :=
  match f with
  | .fn f caps => some (f, args ++ caps)
  | .bfn f fs => some (f, fs ++ args)
  | _ => none

theorem calleeP_run {o : Oper} {tmps : List Value} {fop : Operand} {args : Array Operand} {ats : Array TypeId} {f : FuncId} {full : List PV} (he : EnvRel A w β env tmps) (ho : o.op = .call ⟨.value fop, args, ats⟩) (hf : calleeP (pe env fop) (args.toList.map (pe env)) = some (f, full)) (hent : Enters P f) :
    ∃ fv : List Value, full.length = fv.length ∧ (∀ (j : Nat) p v, full[j]? = some p → fv[j]? = some v → Den A w β p v) ∧ (execOp (⟨tmps.toArray, []⟩ : Act).eval o).run P w = .ok (.enter f fv.toArray) w := by
  have harg : ∀ (j : Nat) p v, (args.toList.map (pe env))[j]? = some p → (args.toList.map (⟨tmps.toArray, []⟩ : Act).eval)[j]? = some v → Den A w β p v := fun j p v hp hv => by
    simp only [List.getElem?_map] at hp hv
    cases hy : args.toList[j]? with
    | none => rw [hy] at hp; cases hp
    | some y => rw [hy] at hp hv; cases hp; cases hv; exact he.eval [] y
  have app : ∀ {ps qs : List PV} {us vs : List Value}, ps.length = us.length → (∀ (j : Nat) p v, ps[j]? = some p → us[j]? = some v → Den A w β p v) → (∀ (j : Nat) p v, qs[j]? = some p → vs[j]? = some v → Den A w β p v) →
      ∀ (j : Nat) p v, (ps ++ qs)[j]? = some p → (us ++ vs)[j]? = some v → Den A w β p v := by
    intro ps qs us vs hl h1 h2 j p v hp hv
    by_cases hj : j < ps.length
    · rw [List.getElem?_append_left hj] at hp
      rw [List.getElem?_append_left (by omega)] at hv
      exact h1 j p v hp hv
    · rw [List.getElem?_append_right (by omega)] at hp hv
      rw [hl] at hp
      exact h2 _ p v hp hv
  have hfv := he.eval [] fop
  unfold calleeP at hf
  split at hf
  · rename_i f' caps hfp
    cases hf
    rw [hfp] at hfv
    obtain ⟨cvs, hcv, hcl, hcd⟩ := hfv.fn_inv
    refine ⟨args.toList.map (⟨tmps.toArray, []⟩ : Act).eval ++ cvs, by simp [hcl], app (by simp) harg hcd, ?_⟩
    simp only [execOp, ho, Go.resolve, hcv, Deferred.ofValue, Sem.run_bind, Sem.run_pure, Result.andThen_ok, invoke]
    rw [hent]
    congr 2
    exact Array.ext' (by simp)
  · rename_i f' fs hfp
    cases hf
    rw [hfp] at hfv
    obtain ⟨cvs, hcv, hcl, hcd⟩ := hfv.bfn_inv
    refine ⟨cvs ++ args.toList.map (⟨tmps.toArray, []⟩ : Act).eval, by simp [hcl], app hcl hcd harg, ?_⟩
    simp only [execOp, ho, Go.resolve, hcv, Deferred.ofValue, Sem.run_bind, Sem.run_pure, Result.andThen_ok, invoke]
    rw [hent]
    congr 2
    exact Array.ext' (by simp)
  · cases hf

theorem op_callA {o : Oper} {K : PV → List PObj → Prop} {fop : Operand} {args : Array Operand} {ats : Array TypeId} {f : FuncId} {full : List PV} {Q : PV → List PObj → Prop} (sel : List Nat)
    (ho : o.op = .call ⟨.value fop, args, ats⟩) (hf : calleeP (pe env fop) (args.toList.map (pe env)) = some (f, full)) (hent : Enters P f) (hnd : sel.Nodup) (hlive : sel.all (fun i => !(st.getD i .dead).stays || (st.getD i .dead).live) = true)
    (hrefs : full.all (PV.refs sel.contains 5) = true) (hobjs : sel.all (fun i => (st.getD i .dead).refs sel.contains 5) = true)
    {cargs : List PV} {cst : List PObj} (hle : Le (full.map (PV.ren (idxIn sel) 5)) cargs) (hls : StLe (selSt sel st) cst) (hc : PCalls P Gl f cargs cst Q)
    (hK : ∀ r st', Q r st' → r.refs (fun _ => true) 5 = true ∧ st'.all (PObj.refs (fun _ => true) 5) = true ∧ K (r.ren (idxOutA sel st) 5) (mergeA sel st (st'.map (PObj.ren (idxOutA sel st) 5)))) :
    OpP P Gl B o env st K := fun A w β tmps Q' hi he => by
  have hlen := hi.len
  have hso : ∀ i ∈ sel, ∃ x, st[i]? = some x ∧ (x.live = true ∨ x.stays = false) := fun i h => by
    have := List.all_eq_true.1 hlive i h
    cases hx : st[i]? with
    | none => simp [List.getD, hx, PObj.live, PObj.stays] at this
    | some x =>
      simp only [List.getD, hx, Option.getD_some, Bool.or_eq_true, Bool.not_eq_true'] at this
      exact ⟨x, rfl, this.symm⟩
  have hsb : ∀ i ∈ sel, ∃ b, β[i]? = some b := fun i h => by
    obtain ⟨x, hx, _⟩ := hso i h
    have : i < β.length := by rw [hlen]; exact (List.getElem?_eq_some_iff.1 hx).1
    exact ⟨_, List.getElem?_eq_getElem this⟩
  -- the callee's blocks
  let γ : List Nat := sel.map fun i => β.getD i 0
  have hγ : ∀ {j b : Nat}, γ[j]? = some b → ∃ i, sel[j]? = some i ∧ β[i]? = some b := by
    intro j b h
    simp only [γ, List.getElem?_map] at h
    cases hx : sel[j]? with
    | none => rw [hx] at h; cases h
    | some i =>
      rw [hx] at h
      cases h
      obtain ⟨b', hb'⟩ := hsb i (List.mem_of_getElem? hx)
      exact ⟨i, rfl, by simp [List.getD, hb']⟩
  have hin : ∀ (i b : Nat), sel.contains i = true → β[i]? = some b → γ[idxIn sel i]? = some b := by
    intro i b h hb
    have hm : i ∈ sel := by simpa using h
    have hlt := List.idxOf_lt_length_of_mem hm
    simp only [γ, idxIn, List.getElem?_map, List.getElem?_eq_getElem hlt, List.getElem_idxOf hlt, Option.map_some, List.getD, hb, Option.getD_some]
  have hrl : ∀ (y : PObj) (r : Nat → Nat) n, (y.ren r n).live = y.live := fun y r n => by cases y <;> rfl
  have hrs : ∀ (y : PObj) (r : Nat → Nat) n, (y.ren r n).stays = y.stays := fun y r n => by cases y <;> rfl
  have hcst : ∀ {j : Nat} {x : PObj}, (selSt sel st)[j]? = some x → ∃ i y, sel[j]? = some i ∧ st[i]? = some y ∧ x = y.ren (idxIn sel) 5 ∧ y.refs sel.contains 5 = true := by
    intro j x h
    simp only [selSt, List.getElem?_map] at h
    cases hx : sel[j]? with
    | none => rw [hx] at h; cases h
    | some i =>
      rw [hx] at h
      cases h
      obtain ⟨y, hy, hl⟩ := hso i (List.mem_of_getElem? hx)
      have hr := List.all_eq_true.1 hobjs i (List.mem_of_getElem? hx)
      simp only [List.getD, hy, Option.getD_some] at hr ⊢
      exact ⟨i, y, rfl, hy, rfl, hr⟩
  have hlv : ∀ {j : Nat}, liveAt (selSt sel st) j → ∃ i, sel[j]? = some i ∧ liveAt st i := fun {j} ⟨x, hx, hl⟩ => by
    obtain ⟨i, y, h1, h2, rfl, _⟩ := hcst hx
    exact ⟨i, h1, y, h2, by rw [hrl] at hl; exact hl⟩
  have hjj : ∀ {j k i : Nat}, sel[j]? = some i → sel[k]? = some i → j = k := fun {j k i} h1 h2 => by
    have a := (List.getElem?_eq_some_iff.1 h1)
    have b := (List.getElem?_eq_some_iff.1 h2)
    obtain ⟨l1, e1⟩ := a
    obtain ⟨l2, e2⟩ := b
    have hp := List.pairwise_iff_getElem.1 hnd
    rcases Nat.lt_trichotomy j k with h | h | h
    · exact (hp j k l1 l2 h (e1.trans e2.symm)).elim
    · exact h
    · exact (hp k j l2 l1 h (e2.trans e1.symm)).elim
  have hK0 : ∀ {b : Nat}, (base0 A w γ (selSt sel st)).K b → ∃ i, i ∈ sel ∧ β[i]? = some b ∧ liveAt st i := fun {b} ⟨j, hj, hl⟩ => by
    obtain ⟨i1, s1, b1⟩ := hγ hj
    obtain ⟨i2, s2, l2⟩ := hlv hl
    rw [s1] at s2; cases s2
    exact ⟨i1, List.mem_of_getElem? s1, b1, l2⟩
  have hic0 : Inv Gl (base0 A w γ (selSt sel st)) A w γ (selSt sel st) := by
    have hr := hi.rebase
    refine ⟨by simp [γ, selSt], ?_, ?_, ?_, ?_, hi.lt, fun b h => .inl h, fun b h => h, Nat.le_refl _, rfl, rfl, rfl, fun _ _ _ => rfl, ?_, fun i b _ h => h, fun b hb => ⟨fun hk => ?_, hi.lt b hb⟩⟩
    · intro j k b h1 h2 l1 l2
      obtain ⟨i1, s1, b1⟩ := hγ h1
      obtain ⟨i2, s2, b2⟩ := hγ h2
      obtain ⟨i1', t1, v1⟩ := hlv l1
      obtain ⟨i2', t2, v2⟩ := hlv l2
      rw [s1] at t1; cases t1
      rw [s2] at t2; cases t2
      have := hi.inj i1 i2 b b1 b2 v1 v2
      subst this
      exact hjj s1 s2
    · intro j b x h1 h2
      obtain ⟨i1, s1, b1⟩ := hγ h1
      obtain ⟨i2, y, s2, hy, rfl, hr⟩ := hcst h2
      rw [s1] at s2; cases s2
      exact (hi.obj i1 b y b1 hy).ren hin hr
    · intro j b h1 l1
      obtain ⟨i1, s1, b1⟩ := hγ h1
      obtain ⟨i1', t1, v1⟩ := hlv l1
      rw [s1] at t1; cases t1
      exact hi.notA i1 b b1 v1
    · intro j b h1 l1; exact .inl ⟨j, h1, l1⟩
    · intro b hb
      obtain ⟨g1, g2, g3⟩ := hr.glob b hb
      refine ⟨g1, fun hm => ?_, g3⟩
      obtain ⟨i1, s1, b1, v1⟩ := hK0 hm
      exact g2 ⟨i1, b1, v1⟩
    · obtain ⟨i1, s1, b1, v1⟩ := hK0 hk
      exact hi.notA i1 b b1 v1 hb
  have hic := (hic0.weaken hls).rebase
  have hKsel : ∀ {b : Nat}, (base0 A w γ cst).K b → ∃ i, i ∈ sel ∧ β[i]? = some b ∧ liveAt st i := fun {b} ⟨j, hj, o, ho, hl⟩ => by
    refine hK0 ⟨j, hj, ?_⟩
    obtain ⟨q, hq, hr⟩ := hls.get j o ho
    rcases hr with rfl | rfl | ⟨cs, ds, rfl, rfl, _⟩
    · exact ⟨_, hq, hl⟩
    · cases hl
    · exact ⟨_, hq, rfl⟩
  -- the arguments
  obtain ⟨fv, hfl, hfd, hrun⟩ := calleeP_run (P := P) (o := o) he ho hf hent
  have hargs : ArgRel A w γ (full.map (PV.ren (idxIn sel) 5)) fv := by
    refine ⟨by simp [hfl], fun j p v hp hv => ?_⟩
    rw [List.getElem?_map] at hp
    cases hx : full[j]? with
    | none => rw [hx] at hp; cases hp
    | some x =>
      rw [hx] at hp
      cases hp
      exact Den.ren hin 5 (hfd j x v hx hv) (List.all_eq_true.1 hrefs x (List.mem_of_getElem? hx))
  have hcall := hc A w γ _ hic (hargs.weaken hle)
  unfold Oper.wp
  rw [hrun]
  refine hcall.mono ?_
  rintro e w' ⟨r, v, st', A', β', rfl, hq, hd, hi'⟩
  have hE : Ext A w A' w' := hi'.ext0
  have hP : ∀ (j b : Nat), keepsAt sel st j = true → γ[j]? = some b → β'[j]? = some b := fun j b hkp hj => by
    refine hi'.pre j b ?_ hj
    obtain ⟨i1, s1, b1⟩ := hγ hj
    have hs1 : (st.getD i1 .dead).stays = true := by
      simp only [keepsAt, List.getD, s1, Option.getD_some, Bool.and_eq_true] at hkp
      exact hkp.2
    have hjl : j < cst.length := by rw [← hls.len]; simp only [selSt, List.length_map]; exact (List.getElem?_eq_some_iff.1 s1).1
    have hcj : cst[j]? = some cst[j] := List.getElem?_eq_getElem hjl
    show ((cst[j]?).map PObj.stays).getD false = true
    rw [hcj]
    obtain ⟨q, hq, hr⟩ := hls.get j _ hcj
    simp only [selSt, List.getElem?_map, s1, Option.map_some] at hq
    cases hq
    rcases hr with hr | hr | ⟨cs, ds, h1, h2, _⟩
    · show cst[j].stays = true
      rw [← hr, hrs]; exact hs1
    · rw [hr]; rfl
    · rw [h2]; rfl
  obtain ⟨hr1, hr2, hk⟩ := hK r st' hq
  have hlen' := hi'.len
  -- the caller's blocks behind the call
  let δ : List Nat := β ++ β'
  have hout : ∀ (j b : Nat), true = true → β'[j]? = some b → δ[idxOutA sel st j]? = some b := by
    intro j b _ hb
    simp only [idxOutA]
    cases hkp : keepsAt sel st j with
    | true =>
      have hj : j < sel.length := by simp only [keepsAt, Bool.and_eq_true, decide_eq_true_eq] at hkp; exact hkp.1
      have hs : sel[j]? = some sel[j] := List.getElem?_eq_getElem hj
      obtain ⟨b', hb'⟩ := hsb sel[j] (List.getElem_mem hj)
      have hγj : γ[j]? = some b' := by simp only [γ, List.getElem?_map, hs, Option.map_some, List.getD, hb', Option.getD_some]
      have := hP j b' hkp hγj
      rw [hb] at this
      cases this
      simp only [List.getD, hs, Option.getD_some]
      exact Pre.snoc _ _ _ _ hb'
    | false =>
      simp only
      rw [List.getElem?_append_right (by omega), hlen, Nat.add_sub_cancel_left]
      exact hb
  have hkeep : ∀ {i b : Nat}, β[i]? = some b → liveAt st i → i ∉ sel → w'.heap[b]? = w.heap[b]? := by
    intro i b hb hl hns
    refine hi'.keep b ((hi.obj i b _ hb hl.choose_spec.1).lt hl.choose_spec.2) (fun hm => ?_)
    obtain ⟨i1, s1, b1, v1⟩ := hKsel hm
    have := hi.inj i i1 b hb b1 hl v1
    subst this
    exact hns s1
  have hmget : ∀ {i : Nat} {x : PObj}, (mergeA sel st (st'.map (PObj.ren (idxOutA sel st) 5)))[i]? = some x →
      (i < st.length ∧ i ∉ sel ∧ st[i]? = some x) ∨ (∃ j y, st'[j]? = some y ∧ x = y.ren (idxOutA sel st) 5 ∧ i = idxOutA sel st j) ∨ x = .dead := by
    intro i x h
    simp only [mergeA] at h
    by_cases hil : i < st.length
    · rw [List.getElem?_append_left (by rw [mergeAuxA_len]; exact hil), mergeAuxA_get, List.getElem?_eq_getElem hil, Nat.zero_add] at h
      simp only [Option.map_some, Option.some.injEq] at h
      cases hcn : sel.contains i with
      | true =>
        have hm : i ∈ sel := by simpa using hcn
        have hlt := List.idxOf_lt_length_of_mem hm
        rw [hcn] at h
        cases hsy : st[i].stays with
        | false => rw [hsy] at h; exact .inr (.inr h.symm)
        | true =>
          rw [hsy] at h
          simp only at h
          cases hx : st'[sel.idxOf i]? with
          | none => right; right; rw [← h]; simp [List.getD, hx]
          | some y =>
            right; left
            refine ⟨sel.idxOf i, y, hx, by rw [← h]; simp [List.getD, hx], ?_⟩
            have hkp : keepsAt sel st (sel.idxOf i) = true := by
              simp only [keepsAt, List.getD, List.getElem?_eq_getElem hlt, List.getElem_idxOf hlt, Option.getD_some, List.getElem?_eq_getElem hil, hsy, Bool.and_true, decide_eq_true_eq]
              exact hlt
            simp only [idxOutA, hkp, List.getD, List.getElem?_eq_getElem hlt, List.getElem_idxOf hlt, Option.getD_some]
      | false =>
        rw [hcn] at h
        simp only at h
        left
        exact ⟨hil, by simpa using hcn, by rw [← h]; exact List.getElem?_eq_getElem hil⟩
    · rw [List.getElem?_append_right (by rw [mergeAuxA_len]; omega), mergeAuxA_len, newAux_get, Nat.zero_add, List.getElem?_map] at h
      cases hx : st'[i - st.length]? with
      | none => rw [hx] at h; cases h
      | some y =>
        rw [hx] at h
        simp only [Option.map_some, Option.some.injEq] at h
        cases hkp : keepsAt sel st (i - st.length) with
        | true => rw [hkp] at h; exact .inr (.inr h.symm)
        | false =>
          rw [hkp] at h
          right; left
          refine ⟨_, y, hx, h.symm, ?_⟩
          simp only [idxOutA, hkp]
          omega
  have hδget : ∀ {i b : Nat}, δ[i]? = some b → i < st.length → β[i]? = some b := fun {i b} h hl => by
    rw [List.getElem?_append_left (by omega)] at h; exact h
  have hAsub : ∀ b, A' b → A b ∨ (∃ i, i ∈ sel ∧ β[i]? = some b ∧ liveAt st i) ∨ w.heap.size ≤ b := fun b hb => (hi'.new b hb).imp_right (Or.imp_left hKsel)
  have hfin : Inv Gl B A' w' δ (mergeA sel st (st'.map (PObj.ren (idxOutA sel st) 5))) := by
    have lv : ∀ {i b : Nat}, δ[i]? = some b → liveAt (mergeA sel st (st'.map (PObj.ren (idxOutA sel st) 5))) i →
        (i ∉ sel ∧ β[i]? = some b ∧ liveAt st i ∧ b < w.heap.size) ∨ (∃ j y, st'[j]? = some y ∧ y.live = true ∧ i = idxOutA sel st j ∧ β'[j]? = some b) := by
      intro i b hb ⟨x, hx, hl⟩
      rcases hmget hx with ⟨g1, g2, g3⟩ | ⟨j, y, g1, rfl, g3⟩ | rfl
      · left
        have hbb := hδget hb g1
        exact ⟨g2, hbb, ⟨x, g3, hl⟩, (hi.obj i b x hbb g3).lt hl⟩
      · right
        have hjl : j < β'.length := by rw [hlen']; exact (List.getElem?_eq_some_iff.1 g1).1
        have hbj : β'[j]? = some β'[j] := List.getElem?_eq_getElem hjl
        have := hout j _ rfl hbj
        rw [← g3, hb] at this
        cases this
        exact ⟨j, y, g1, by rw [← hl, hrl], g3, hbj⟩
      · cases hl
    have cross : ∀ {i j b : Nat}, i ∉ sel → β[i]? = some b → liveAt st i → β'[j]? = some b → liveAt st' j → False := by
      intro i j b hns hb hl hbj hlj
      have hlt := (hi.obj i b _ hb hl.choose_spec.1).lt hl.choose_spec.2
      rcases hi'.own j b hbj hlj with h | h
      · obtain ⟨i1, s1, b1, v1⟩ := hKsel h
        have := hi.inj i i1 b hb b1 hl v1
        subst this
        exact hns s1
      · exact Nat.lt_irrefl _ (Nat.lt_of_lt_of_le hlt h)
    refine ⟨?_, ?_, ?_, ?_, ?_, hi'.lt, ?_, fun b hb => hE.sub b (hi.old b hb), Nat.le_trans hi.size hi'.size, hi'.os.trans hi.os, hi'.tape.trans hi.tape, hi'.output.trans hi.output, ?_, hi.glob, fun i b h1 h2 => Pre.snoc _ _ _ _ (hi.pre i b h1 h2), hi.apart⟩
    · simp only [δ, mergeA, List.length_append, mergeAuxA_len, newAux_len, List.length_map]; omega
    · intro i k b h1 h2 l1 l2
      rcases lv h1 l1 with ⟨n1, b1, v1, _⟩ | ⟨j1, y1, s1, v1, e1, b1⟩ <;> rcases lv h2 l2 with ⟨n2, b2, v2, _⟩ | ⟨j2, y2, s2, v2, e2, b2⟩
      · exact hi.inj i k b b1 b2 v1 v2
      · exact (cross n1 b1 v1 b2 ⟨y2, s2, v2⟩).elim
      · exact (cross n2 b2 v2 b1 ⟨y1, s1, v1⟩).elim
      · rw [e1, e2, hi'.inj j1 j2 b b1 b2 ⟨y1, s1, v1⟩ ⟨y2, s2, v2⟩]
    · intro i b x h1 h2
      rcases hmget h2 with ⟨g1, g2, g3⟩ | ⟨j, y, g1, rfl, g3⟩ | rfl
      · have hbb := hδget h1 g1
        cases hxl : x.live with
        | false => exact (hi.obj i b x hbb g3).still hxl
        | true => exact (hi.obj i b x hbb g3).mono hE (Pre.snoc _ _) (hkeep hbb ⟨x, g3, hxl⟩ g2)
      · have hjl : j < β'.length := by rw [hlen']; exact (List.getElem?_eq_some_iff.1 g1).1
        have hbj : β'[j]? = some β'[j] := List.getElem?_eq_getElem hjl
        have := hout j _ rfl hbj
        rw [← g3, h1] at this
        cases this
        exact (hi'.obj j _ y hbj g1).ren hout (List.all_eq_true.1 hr2 y (List.mem_of_getElem? g1))
      · trivial
    · intro i b h1 l1 hA
      rcases lv h1 l1 with ⟨n1, b1, v1, hlt⟩ | ⟨j1, y1, s1, v1, e1, b1⟩
      · rcases hAsub b hA with h | h | h
        · exact hi.notA i b b1 v1 h
        · obtain ⟨i1, g1, b2, v2⟩ := h
          have := hi.inj i i1 b b1 b2 v1 v2
          subst this
          exact n1 g1
        · omega
      · exact hi'.notA j1 b b1 ⟨y1, s1, v1⟩ hA
    · intro i b h1 l1
      rcases lv h1 l1 with ⟨n1, b1, v1, hlt⟩ | ⟨j1, y1, s1, v1, e1, b1⟩
      · exact hi.own i b b1 v1
      · rcases hi'.own j1 b b1 ⟨y1, s1, v1⟩ with h | h
        · obtain ⟨i1, g1, b2, v2⟩ := hKsel h
          exact hi.own i1 b b2 v2
        · right; exact Nat.le_trans hi.size h
    · intro b hb
      rcases hAsub b hb with h | h | h
      · exact hi.new b h
      · obtain ⟨i1, g1, b2, v2⟩ := h
        rcases hi.own i1 b b2 v2 with h | h
        · exact .inr (.inl h)
        · exact .inr (.inr h)
      · exact .inr (.inr (Nat.le_trans hi.size h))
    · intro b hb hk
      rw [hi'.keep b (Nat.lt_of_lt_of_le hb hi.size) (fun hm => ?_)]
      · exact hi.keep b hb hk
      · obtain ⟨i1, g1, b2, v2⟩ := hKsel hm
        rcases hi.own i1 b b2 v2 with h | h
        · exact hk h
        · omega
  exact ⟨v, _, _, A', δ, rfl, hk, hd.ren hout 5 hr1, hfin, hE, Pre.snoc _ _⟩

/-! ### an object goes back to a place that stands free -/
def mvP (i L : Nat) (p : PV) : PV := match p.refs (fun j => j != i && j != L) 5 with
  | true => p
  | false => match p.refs (fun j => j != i) 5 with
    | true => p.ren (fun j => match Nat.beq j L with | true => i | false => j) 5
    | false => .any
def mvO (i L : Nat) : PObj → PObj
  | .box cs => .box (cs.map (mvP i L))
  | .map es => .map (es.map fun e => (e.1, mvP i L e.2))
  | o => o

theorem Den.mv {i L : Nat} (h1 : ∀ (k b : Nat), k ≠ i → k ≠ L → β[k]? = some b → β'[k]? = some b) (h2 : ∀ b, β[L]? = some b → β'[i]? = some b) {p : PV} {v : Value} (h : Den A w β p v) : Den A w β' (mvP i L p) v := by
  unfold mvP
  split
  · rename_i hp
    have := h.ren (β' := β') (r := fun i => i) (fun k b hk hb => by
      simp only [Bool.and_eq_true, bne_iff_ne, ne_eq] at hk
      exact h1 k b hk.1 hk.2 hb) 5 hp
    rwa [PV.ren_id] at this
  · split
    · rename_i hp
      refine h.ren (fun k b hk hb => ?_) 5 hp
      simp only [bne_iff_ne, ne_eq] at hk
      cases hkL : Nat.beq k L with
      | true =>
        have := Nat.eq_of_beq_eq_true hkL
        subst this
        exact h2 b hb
      | false => exact h1 k b hk (fun e => by subst e; rw [Nat.beq_refl] at hkL; cases hkL) hb
    · exact .any ..

theorem mvO_live (i L : Nat) (o : PObj) : (mvO i L o).live = o.live := by cases o <;> rfl

/-- The object at L goes to place i, where none lives; place L is free behind it. -/
theorem Inv.mv {i L : Nat} {x : PObj} (hi : Inv Gl B A w β st) (hLx : st[L]? = some x) (hiL : i ≠ L) (hdead : ((st[i]?).map PObj.live) = some false) (hBi : B.D i = false) (_hBL : B.D L = false) :
    ∃ β', Inv Gl B A w β' (((st.map (mvO i L)).set L .dead).set i (mvO i L x)) ∧ ∀ p v, Den A w β p v → Den A w β' (mvP i L p) v := by
  have hlen := hi.len
  have hLl : L < st.length := (List.getElem?_eq_some_iff.1 hLx).1
  have hil : i < st.length := by
    cases hx : st[i]? with
    | none => rw [hx] at hdead; cases hdead
    | some y => exact (List.getElem?_eq_some_iff.1 hx).1
  have hbL : β[L]? = some (β[L]'(by omega)) := List.getElem?_eq_getElem (by omega)
  generalize (β[L]'(by omega)) = b at hbL
  have g1 : ∀ (k c : Nat), k ≠ i → k ≠ L → β[k]? = some c → (β.set i b)[k]? = some c := fun k c h1 h2 hc => by
    rw [List.getElem?_set, if_neg (fun e => h1 e.symm)]; exact hc
  have g2 : ∀ c, β[L]? = some c → (β.set i b)[i]? = some c := fun c hc => by
    rw [hbL] at hc; cases hc
    rw [List.getElem?_set_self (by omega)]
  have hden : ∀ p v, Den A w β p v → Den A w (β.set i b) (mvP i L p) v := fun p v h => h.mv g1 g2
  have hob : ∀ {c : Nat} {y : PObj}, ObjRel A β w c y → ObjRel A (β.set i b) w c (mvO i L y) := fun {c y} h => by
    cases y with
    | dead => trivial
    | box cs =>
      obtain ⟨vs, T, fr, q1, q2, q3, q4⟩ := h
      refine ⟨vs, T, fr, q1, by simpa using q2, by simpa using q3, fun m z v hz hv => ?_⟩
      rw [List.getElem?_map] at hz
      cases hy : cs[m]? with
      | none => rw [hy] at hz; cases hz
      | some y => rw [hy] at hz; cases hz; exact hden _ _ (q4 m y v hy hv)
    | arr k xs cap => exact h
    | map es =>
      obtain ⟨mes, cl, q1, q2, q3⟩ := h
      refine ⟨mes, cl, q1, by simpa using q2, fun m kk v hm => ?_⟩
      rw [List.getElem?_map] at hm
      cases hz : es[m]? with
      | none => rw [hz] at hm; cases hm
      | some z =>
        rw [hz] at hm
        cases hm
        obtain ⟨e, r1, r2, r3⟩ := q3 m z.1 z.2 hz
        exact ⟨e, r1, r2, hden _ _ r3⟩
  have hs : ∀ {j : Nat} {o : PObj}, (((st.map (mvO i L)).set L .dead).set i (mvO i L x))[j]? = some o → (j = i ∧ o = mvO i L x) ∨ (j = L ∧ o = .dead) ∨ (j ≠ i ∧ j ≠ L ∧ ∃ y, st[j]? = some y ∧ o = mvO i L y) := by
    intro j o h
    rw [List.getElem?_set] at h
    split at h
    · rename_i e
      split at h
      · cases h; exact .inl ⟨e.symm, rfl⟩
      · cases h
    · rename_i e
      rw [List.getElem?_set] at h
      split at h
      · rename_i e2
        split at h
        · cases h; exact .inr (.inl ⟨e2.symm, rfl⟩)
        · cases h
      · rename_i e2
        rw [List.getElem?_map] at h
        cases hy : st[j]? with
        | none => rw [hy] at h; cases h
        | some y => rw [hy] at h; cases h; exact .inr (.inr ⟨fun h => e h.symm, fun h => e2 h.symm, y, rfl, rfl⟩)
  have hβ : ∀ {j c : Nat}, (β.set i b)[j]? = some c → (j = i ∧ c = b) ∨ (j ≠ i ∧ β[j]? = some c) := by
    intro j c h
    rw [List.getElem?_set] at h
    split at h
    · rename_i e
      split at h
      · cases h; exact .inl ⟨e.symm, rfl⟩
      · cases h
    · rename_i e; exact .inr ⟨fun h => e h.symm, h⟩
  have lv : ∀ {j c : Nat}, (β.set i b)[j]? = some c → liveAt (((st.map (mvO i L)).set L .dead).set i (mvO i L x)) j → ∃ k, β[k]? = some c ∧ liveAt st k ∧ ((j = i ∧ k = L) ∨ (j ≠ i ∧ j ≠ L ∧ k = j)) := by
    intro j c h ⟨o, ho, hl⟩
    rcases hs ho with ⟨f1, rfl⟩ | ⟨f1, rfl⟩ | ⟨f1, f2, y, hy, rfl⟩
    · rcases hβ h with ⟨e1, rfl⟩ | ⟨e1, _⟩
      · exact ⟨L, hbL, ⟨x, hLx, by rw [mvO_live] at hl; exact hl⟩, .inl ⟨f1, rfl⟩⟩
      · exact (e1 f1).elim
    · cases hl
    · rcases hβ h with ⟨e1, rfl⟩ | ⟨e1, e2⟩
      · exact (f1 e1).elim
      · exact ⟨j, e2, ⟨y, hy, by rw [mvO_live] at hl; exact hl⟩, .inr ⟨f1, f2, rfl⟩⟩
  refine ⟨β.set i b, ⟨by simpa using hlen, ?_, ?_, ?_, ?_, hi.lt, hi.new, hi.old, hi.size, hi.os, hi.tape, hi.output, hi.keep, hi.glob, ?_, hi.apart⟩, hden⟩
  · intro j k c h1 h2 l1 l2
    obtain ⟨j', b1, v1, e1⟩ := lv h1 l1
    obtain ⟨k', b2, v2, e2⟩ := lv h2 l2
    have := hi.inj j' k' c b1 b2 v1 v2
    omega
  · intro j c o h1 h2
    rcases hs h2 with ⟨f1, rfl⟩ | ⟨f1, rfl⟩ | ⟨f1, f2, y, hy, rfl⟩
    · rcases hβ h1 with ⟨e1, rfl⟩ | ⟨e1, _⟩
      · exact hob (hi.obj L _ x hbL hLx)
      · exact (e1 f1).elim
    · trivial
    · rcases hβ h1 with ⟨e1, rfl⟩ | ⟨e1, e2⟩
      · exact (f1 e1).elim
      · exact hob (hi.obj j c y e2 hy)
  · intro j c h1 l1
    obtain ⟨j', b1, v1, e1⟩ := lv h1 l1
    exact hi.notA j' c b1 v1
  · intro j c h1 l1
    obtain ⟨j', b1, v1, e1⟩ := lv h1 l1
    exact hi.own j' c b1 v1
  · intro j c h1 h2
    have hji : j ≠ i := fun e => by subst e; rw [hBi] at h1; cases h1
    rw [List.getElem?_set, if_neg (fun e => hji e.symm)]
    exact hi.pre j c h1 h2

theorem pw_mv (i L : Nat) {Q : Post} {c : Code} {x : PObj} {st0 : List PObj} (hD : ∀ j, B.D j = dOf st0 j) (hLx : st[L]? = some x) (hiL : Nat.beq i L = false) (hdead : ((st[i]?).map PObj.live) = some false) (h0 : dOf st0 i = false) (h1 : dOf st0 L = false)
    (h : PW P Gl B c (env.map (mvP i L)) (((st.map (mvO i L)).set L .dead).set i (mvO i L x)) Q) : PW P Gl B c env st Q := fun A w β tmps hi he => by
  obtain ⟨β', h2, h3⟩ := hi.mv hLx (fun e => by subst e; rw [Nat.beq_refl] at hiL; cases hiL) hdead (by rw [hD]; exact h0) (by rw [hD]; exact h1)
  refine h A w β' tmps h2 ⟨by simpa using he.1, fun j p v hp hv => ?_⟩
  rw [List.getElem?_map] at hp
  cases hz : env[j]? with
  | none => rw [hz] at hp; cases hp
  | some z => rw [hz] at hp; cases hp; exact h3 z v (he.2 j z v hz hv)

/-- Places at the end where nothing lives are given up. -/
theorem pw_trim (n : Nat) {Q : Post} {c : Code} {st0 : List PObj} (hD : ∀ j, B.D j = dOf st0 j) (hn : Nat.ble st0.length n = true) (hr : (env.all (PV.refs (fun i => Nat.blt i n) 5) && (st.take n).all (PObj.refs (fun i => Nat.blt i n) 5)) = true)
    (h : PW P Gl B c env (st.take n) Q) : PW P Gl B c env st Q := fun A w β tmps hi he => by
  simp only [Bool.and_eq_true] at hr
  have hlt : (fun i => Nat.blt i n) = fun i => decide (i < n) := by
    funext i
    exact Bool.eq_iff_iff.2 (by simp)
  rw [hlt] at hr
  have hg : ∀ {i b : Nat}, (β.take n)[i]? = some b → β[i]? = some b := fun {i b} h => by
    rw [List.getElem?_take] at h
    split at h
    · exact h
    · cases h
  have hgr : ∀ (i b : Nat), decide (i < n) = true → β[i]? = some b → (β.take n)[i]? = some b := fun i b h1 h2 => by
    simp only [decide_eq_true_eq] at h1
    rw [List.getElem?_take, if_pos h1]; exact h2
  refine h A w (β.take n) tmps ⟨by simp [hi.len], ?_, ?_, ?_, ?_, hi.lt, hi.new, hi.old, hi.size, hi.os, hi.tape, hi.output, hi.keep, hi.glob, fun i b h1 h2 => ?_, hi.apart⟩ ⟨he.1, fun j p v hp hv => ?_⟩
  · intro i j b h1 h2 l1 l2; exact hi.inj i j b (hg h1) (hg h2) (liveAt_take l1).1 (liveAt_take l2).1
  · intro i b o h1 h2
    have h2' := h2
    rw [List.getElem?_take] at h2'
    split at h2'
    · have := (hi.obj i b o (hg h1) h2').ren (β' := β.take n) (r := fun i => i) hgr (List.all_eq_true.1 hr.2 o (List.mem_of_getElem? h2))
      rwa [PObj.ren_id] at this
    · cases h2'
  · intro i b h1 l1; exact hi.notA i b (hg h1) (liveAt_take l1).1
  · intro i b h1 l1; exact hi.own i b (hg h1) (liveAt_take l1).1
  · have hlt : i < st0.length := by
      rw [hD] at h1
      unfold dOf at h1
      cases hx : st0[i]? with
      | none => rw [hx] at h1; cases h1
      | some x => exact (List.getElem?_eq_some_iff.1 hx).1
    have := Nat.le_of_ble_eq_true hn
    rw [List.getElem?_take, if_pos (by omega)]; exact hi.pre i b h1 h2
  · have := (he.2 j p v hp hv).ren (β' := β.take n) (r := fun i => i) hgr 5 (List.all_eq_true.1 hr.1 p (List.mem_of_getElem? hp))
    rwa [PV.ren_id] at this
end
end Go.Pw
namespace Go.Pw
open Go

/-- The slots that a piece of code writes. -/
def dstsL : List Oper → List Nat
  | [] => []
  | o :: l => match o.dst with
    | some d => d :: dstsL l
    | none => dstsL l
def dstsOf : Code → List Nat
  | .region _ ops _ => dstsL ops.toList
  | .seq a b => dstsOf a ++ dstsOf b
  | .block _ a => dstsOf a
  | .loop a => dstsOf a
  | .cond _ a b => dstsOf a ++ dstsOf b
  | _ => []
def forceN {α : Type} : List Nat → (List Nat → α) → α
  | [], k => k []
  | x :: xs, k => forceN xs fun ys => k (x :: ys)
theorem forceN_eq {α : Type} : ∀ (l : List Nat) (k : List Nat → α), forceN l k = k l
  | [], _ => rfl
  | _ :: xs, k => by simp [forceN, forceN_eq xs]
def memN (k : Nat) : List Nat → Bool
  | [] => false
  | d :: ds => match Nat.beq k d with | true => true | false => memN k ds
def lookN (k : Nat) : List (Nat × PV) → Option PV
  | [] => none
  | (d, x) :: l => match Nat.beq k d with | true => some x | false => lookN k l
/-- The frame at a loop's head: the slots that the loop writes are unknown, but for those told. -/
def headK {α : Type} (ds : List Nat) (vs : List (Nat × PV)) : Nat → List PV → (List PV → α) → α
  | _, [], k => k []
  | n, x :: xs, k => match lookN n vs with
    | some y => headK ds vs (n + 1) xs fun l => k (y :: l)
    | none => match memN n ds with
      | true => headK ds vs (n + 1) xs fun l => k (.any :: l)
      | false => headK ds vs (n + 1) xs fun l => k (x :: l)

section rules
variable {P : Program} {Gl : Glob} {B : Base} {tys : List TI} {env : List PV} {st : List PObj} {ops : Array Oper} {rest : List Oper} {o : Oper} {Q : Post}
  {A : Nat → Prop} {w : World} {β : List Nat} {tmps : List Value}

theorem wp_exits {a : Act} {K : Act → World → Prop} {Q1 Q2 : Exit → Act → World → Prop} (h0 : ∀ e a w, Q1 e a w → e = .normal) (hh : o.wp P a w K Q1) : o.wp P a w K Q2 := by
  have hl : ¬ LetsOut Q1 := fun ⟨a, w, h⟩ => by cases h0 _ _ _ h
  have hp : ∀ c a w, ¬ Q1 (.panic c) a w := fun c a w h => by cases h0 _ _ _ h
  unfold Oper.wp at *
  generalize (execOp a.eval o).run P w = r at *
  cases r with
  | ok n w' =>
    cases n <;> simp only [Oper.upon] at hh ⊢ <;>
      first
        | exact hh
        | exact Calls.mono hh (fun e w'' he => by cases e <;> first | exact he | exact (hp _ _ _ he).elim | exact (hl he).elim)
  | halt x w' => cases x <;> simp only [Oper.upon] at hh ⊢ <;> first | exact hh | exact (hp _ _ _ hh).elim

theorem wpList_append {Q1 Q2 : Exit → Act → World → Prop} (h0 : ∀ e a w, Q1 e a w → e = .normal ∧ wpList P ops Q2 rest a w) : ∀ (pre : List Oper) (a : Act) (w : World), wpList P ops Q1 pre a w → wpList P ops Q2 (pre ++ rest) a w
  | [], a, w, h => (h0 _ _ _ h).2
  | o :: pre, a, w, h => by
    unfold wpList at h
    show wpList P ops Q2 (o :: (pre ++ rest)) a w
    unfold wpList
    split at h
    · rename_i hw
      rw [if_pos hw]
      rcases h with h | ⟨_, a, w, h⟩
      · exact .inl (wp_exits (fun e a w h => (h0 e a w h).1) (Oper.wp_mono (wpList_append h0 pre) h))
      · cases (h0 _ _ _ h).1
    · rename_i hw
      rw [if_neg hw]
      exact wpList_append h0 pre _ _ h

/-- What stands between two parts of a region. -/
def midOf (K : List PV → List PObj → Prop) : Post
  | .normal, env, st => K env st
  | _, _, _ => False

theorem pl_cut (n : Nat) (K : List PV → List PObj → Prop) (h : PWL P Gl B ops (rest.take n) env st (midOf K)) (hK : ∀ env' st', K env' st' → PWL P Gl B ops (rest.drop n) env' st' Q) : PWL P Gl B ops rest env st Q := fun A w β tmps hi he => by
  have := wpList_append (P := P) (ops := ops) (rest := rest.drop n) (Q1 := Real Gl B (midOf K)) (Q2 := Real Gl B Q) (fun e a w hr => by
    obtain ⟨env', st', A', β', t', rfl, h2, h3, h4⟩ := hr
    cases e with
    | normal => exact ⟨rfl, hK env' st' h2 A' w β' t' h3 h4⟩
    | _ => exact h2.elim) (rest.take n) _ _ (h A w β tmps hi he)
  rwa [List.take_append_drop] at this

theorem pl_weaken {env' : List PV} {st' : List PObj} (hl : Le env env') (hs : StLe st st') (h : PWL P Gl B ops rest env' st' Q) : PWL P Gl B ops rest env st Q :=
  fun A w β tmps hi he => h A w β tmps (hi.weaken hs) (he.weaken hl)

/-- A test inside a region decides whether the next n operations run; the last of them picks a bool. Both ways are joined. -/
theorem pl_fork (n t d : Nat) {b : Bool} (e1 e0 : Bool) {ds : List Nat} {envM : List PV} (hj : env[t]? = some (.bool b)) (_hds : (forceN (dstsL (rest.take n)) fun l => (l, ())) = (ds, ())) (_hM : (headK ds [] 0 env fun e => (e, ())) = (envM, ()))
    (h1 : b = true → PWL P Gl B ops (rest.take n) (env.set t (.bool true)) st (midOf fun env' st' => Le env' ((envM.set t (.bool true)).set d (.bool e1)) ∧ StLe st' st))
    (h0 : b = false → PWL P Gl B ops (rest.take n) (env.set t (.bool false)) st (midOf fun env' st' => Le env' ((envM.set t (.bool false)).set d (.bool e0)) ∧ StLe st' st))
    (hr : PWL P Gl B ops (rest.drop n) ((envM.set t (.bool b)).set d (.bool (bif b then e1 else e0))) st Q) : PWL P Gl B ops rest env st Q := by
  have hse : env.set t (.bool b) = env := by
    apply List.ext_getElem?
    intro i
    rw [List.getElem?_set]
    split
    · rename_i e; subst e
      have := (List.getElem?_eq_some_iff.1 hj).1
      rw [if_pos this, hj]
    · rfl
  cases b with
  | true =>
    refine pl_cut n (fun env' st' => Le env' ((envM.set t (.bool true)).set d (.bool e1)) ∧ StLe st' st) (by have := h1 rfl; rwa [hse] at this) fun env' st' ⟨hl, hs⟩ => ?_
    exact pl_weaken hl hs hr
  | false =>
    refine pl_cut n (fun env' st' => Le env' ((envM.set t (.bool false)).set d (.bool e0)) ∧ StLe st' st) (by have := h0 rfl; rwa [hse] at this) fun env' st' ⟨hl, hs⟩ => ?_
    exact pl_weaken hl hs hr

theorem pl_and (n t d : Nat) {b : Bool} (e1 : Bool) {ds : List Nat} {envM : List PV} (hj : env[t]? = some (.bool b)) (hds : (forceN (dstsL (rest.take n)) fun l => (l, ())) = (ds, ())) (hM : (headK ds [] 0 env fun e => (e, ())) = (envM, ()))
    (h1 : b = true → PWL P Gl B ops (rest.take n) (env.set t (.bool true)) st (midOf fun env' st' => Le env' ((envM.set t (.bool true)).set d (.bool e1)) ∧ StLe st' st))
    (h0 : b = false → PWL P Gl B ops (rest.take n) (env.set t (.bool false)) st (midOf fun env' st' => Le env' ((envM.set t (.bool false)).set d (.bool false)) ∧ StLe st' st))
    (hr : PWL P Gl B ops (rest.drop n) ((envM.set t (.bool b)).set d (.bool (b && e1))) st Q) : PWL P Gl B ops rest env st Q :=
  pl_fork n t d e1 false hj hds hM h1 h0 (by rw [show (bif b then e1 else false) = (b && e1) by cases b <;> rfl]; exact hr)
theorem pl_or (n t d : Nat) {b : Bool} (e0 : Bool) {ds : List Nat} {envM : List PV} (hj : env[t]? = some (.bool b)) (hds : (forceN (dstsL (rest.take n)) fun l => (l, ())) = (ds, ())) (hM : (headK ds [] 0 env fun e => (e, ())) = (envM, ()))
    (h1 : b = true → PWL P Gl B ops (rest.take n) (env.set t (.bool true)) st (midOf fun env' st' => Le env' ((envM.set t (.bool true)).set d (.bool true)) ∧ StLe st' st))
    (h0 : b = false → PWL P Gl B ops (rest.take n) (env.set t (.bool false)) st (midOf fun env' st' => Le env' ((envM.set t (.bool false)).set d (.bool e0)) ∧ StLe st' st))
    (hr : PWL P Gl B ops (rest.drop n) ((envM.set t (.bool b)).set d (.bool (b || e0))) st Q) : PWL P Gl B ops rest env st Q :=
  pl_fork n t d true e0 hj hds hM h1 h0 (by rw [show (bif b then true else e0) = (b || e0) by cases b <;> rfl]; exact hr)

/-- The frame alone, reckoned. -/
theorem pl_normE {env' : List PV} (h : (forceL env fun e => (e, ())) = (env', ())) (hr : PWL P Gl B ops rest env' st Q) : PWL P Gl B ops rest env st Q := by
  rw [forceL_eq] at h
  cases h
  exact hr
theorem pw_normE {c : Code} {env' : List PV} (h : (forceL env fun e => (e, ())) = (env', ())) (hr : PW P Gl B c env' st Q) : PW P Gl B c env st Q := by
  rw [forceL_eq] at h
  cases h
  exact hr
theorem set_self {t : Nat} {x : PV} (hj : env[t]? = some x) : env.set t x = env := by
  apply List.ext_getElem?
  intro i
  rw [List.getElem?_set]
  split
  · rename_i e; subst e
    have := (List.getElem?_eq_some_iff.1 hj).1
    rw [if_pos this, hj]
  · rfl

/-- Both ways of a test inside a region. -/
theorem pl_split (t : Nat) {b : Bool} (hj : env[t]? = some (.bool b)) (h1 : b = true → PWL P Gl B ops rest (env.set t (.bool true)) st Q) (h0 : b = false → PWL P Gl B ops rest (env.set t (.bool false)) st Q) : PWL P Gl B ops rest env st Q := by
  have hs := set_self hj
  cases b with
  | true => have := h1 rfl; rwa [hs] at this
  | false => have := h0 rfl; rwa [hs] at this
theorem po_split {E : List PV → List PObj → List (Nat × Nat) → Prop} (t : Nat) {b : Bool} {ord : List (Nat × Bool)} {L : List (Nat × Nat)} (hj : env[t]? = some (.bool b)) (h1 : b = true → PWO P Gl B ops E ord (env.set t (.bool true)) st L) (h0 : b = false → PWO P Gl B ops E ord (env.set t (.bool false)) st L) : PWO P Gl B ops E ord env st L := by
  have hs := set_self hj
  cases b with
  | true => have := h1 rfl; rwa [hs] at this
  | false => have := h0 rfl; rwa [hs] at this

/-! ### more values -/
theorem v_min {T1 T2 : TypeId} {x y : Operand} {k : IntKind} {a b : Int} (ho : o.op = .call ⟨.builtin .min, #[x, y], #[T1, T2]⟩) (ha : pe env x = .int k a) (hb : pe env y = .int k b) : OpV P Gl B o env (.int k (min a b)) := fun _ A w β tmps _ he => by
  refine ⟨.int k (min a b), ?_, .int ..⟩
  have hm : #[x, y].map (⟨tmps.toArray, []⟩ : Act).eval = #[.int k a, .int k b] := by simp [int_of he ha, int_of he hb]
  simp only [execOp, ho, Go.resolve, Sem.run_bind, Sem.run_pure, Result.andThen_ok, invoke, builtin, hm, Builtin.min_, List.foldlM_cons, List.foldlM_nil, Builtin.min2]
  rw [show (if b < a then b else a) = min a b by omega]
theorem v_max {T1 T2 : TypeId} {x y : Operand} {k : IntKind} {a b : Int} (ho : o.op = .call ⟨.builtin .max, #[x, y], #[T1, T2]⟩) (ha : pe env x = .int k a) (hb : pe env y = .int k b) : OpV P Gl B o env (.int k (max a b)) := fun _ A w β tmps _ he => by
  refine ⟨.int k (max a b), ?_, .int ..⟩
  have hm : #[x, y].map (⟨tmps.toArray, []⟩ : Act).eval = #[.int k a, .int k b] := by simp [int_of he ha, int_of he hb]
  simp only [execOp, ho, Go.resolve, Sem.run_bind, Sem.run_pure, Result.andThen_ok, invoke, builtin, hm, Builtin.max_, List.foldlM_cons, List.foldlM_nil, Builtin.max2]
  rw [show (if b > a then b else a) = max a b by omega]
end rules
end Go.Pw
namespace Go.Pw
open Go

theorem PV.refs_mono {d d' : Nat → Bool} (hd : ∀ i, d i = true → d' i = true) : ∀ (n : Nat) (p : PV), p.refs d n = true → p.refs d' n = true := by
  intro n
  induction n with
  | zero => intro p h; simp [PV.refs] at h
  | succ n ih =>
    intro p h
    have lst : ∀ cs : List PV, cs.all (PV.refs d n) = true → cs.all (PV.refs d' n) = true := fun cs hc =>
      List.all_eq_true.2 fun p hp => ih p (List.all_eq_true.1 hc p hp)
    cases p <;> simp only [PV.refs] at h ⊢ <;> first | exact hd _ h | exact lst _ h | exact ih _ h
theorem PV.refs_true {n : Nat} {p : PV} (h : p.refs (fun _ => false) n = true) : p.refs (fun _ => true) n = true := PV.refs_mono (fun _ _ => rfl) n p h

/-- The contract of a function that touches no object: its result satisfies R. -/
def PFun (P : Program) (Gl : Glob) (f : FuncId) (args : List PV) (R : PV → Prop) : Prop := PCalls P Gl f args [] fun r st => R r ∧ st = []

section rules
variable {P : Program} {Gl : Glob} {B : Base} {tys : List TI} {env : List PV} {st : List PObj} {ops : Array Oper} {rest : List Oper} {o : Oper} {Q : Post}

theorem Enters.of {f : FuncId} {fn : Func} (hf : P.funcs[f]? = some fn) (hn : (fn.name == "runtime.NumGoroutine") = false) (hb : fn.body.isNone = false) : Enters P f := by
  intro args w
  have hn' : ¬ (fn.name = "runtime.NumGoroutine") := by simpa using hn
  have hb' : ¬ (fn.body = none) := by intro h; simp [h] at hb
  simp [callFunc, hf, hn', hb']

theorem PFun.mono {f : FuncId} {args : List PV} {R R' : PV → Prop} (h : PFun P Gl f args R) (hr : ∀ r, R r → R' r) : PFun P Gl f args R' :=
  PCalls.mono h fun _ _ ⟨h1, h2⟩ => ⟨hr _ h1, h2⟩

theorem PFun.of {f : FuncId} {fn : Func} {c : Code} {args : List PV} {R : PV → Prop} (hT : Tys P tys) (hf : P.funcs[f]? = some fn) (hb : fn.body = some c)
    (h : ∀ B, (∀ j, B.D j = dOf [] j) → PW P Gl B c (args ++ List.replicate (fn.ntmps - args.length) .any) [] (retF tys fn.results.toList 0 fun r st => R r ∧ st = [])) : PFun P Gl f args R :=
  PCalls.of hT hf hb 0 (Nat.le_refl _) h

def forceR : Option PV → Option PV
  | some p => p.force some
  | none => none
theorem forceR_eq (x : Option PV) : forceR x = x := by cases x <;> simp [forceR, PV.force_eq]

/-- A function's end without owned objects: the arrays of its own become rows. -/
theorem ret0 {R : PV → Prop} {rs : List ResultVar} (r r' : PV) (h1 : resP tys env st rs = some r) (h2 : R r') (h3 : FLe (fun i => decide (0 ≤ i)) st 3 r r') (h4 : r'.refs (fun i => decide (i < 0)) 5 = true) : retF tys rs 0 (fun r st => R r ∧ st = []) .ret env st :=
  ⟨r, r', [], h1, ⟨h2, rfl⟩, h3, by rw [List.take_zero]; trivial, h4, rfl⟩
theorem ret0n {R : PV → Prop} {rs : List ResultVar} (r r' : PV) (h1 : resP tys env st rs = some r) (h2 : R r') (h3 : FLe (fun i => decide (0 ≤ i)) st 3 r r') (h4 : r'.refs (fun i => decide (i < 0)) 5 = true) : retF tys rs 0 (fun r st => R r ∧ st = []) .normal env st :=
  ⟨r, r', [], h1, ⟨h2, rfl⟩, h3, by rw [List.take_zero]; trivial, h4, rfl⟩
theorem ret1 {R : PV → Prop} {rs : List ResultVar} (r : PV) (h1 : forceR (resP tys env st rs) = some r) (h2 : R r) (h4 : r.refs (fun _ => false) 5 = true) : retF tys rs 0 (fun r st => R r ∧ st = []) .ret env st :=
  ret0 r r (by rw [forceR_eq] at h1; exact h1) h2 (.inr (.inl rfl)) (by rw [show (fun i => decide (i < 0)) = fun _ : Nat => false from by funext i; simp]; exact h4)
theorem ret1n {R : PV → Prop} {rs : List ResultVar} (r : PV) (h1 : forceR (resP tys env st rs) = some r) (h2 : R r) (h4 : r.refs (fun _ => false) 5 = true) : retF tys rs 0 (fun r st => R r ∧ st = []) .normal env st :=
  ret0n r r (by rw [forceR_eq] at h1; exact h1) h2 (.inr (.inl rfl)) (by rw [show (fun i => decide (i < 0)) = fun _ : Nat => false from by funext i; simp]; exact h4)

theorem op_fun {K : PV → List PObj → Prop} {fop : Operand} {args : Array Operand} {ats : Array TypeId} {f : FuncId} {caps : List PV} {R : PV → Prop} {cargs : List PV} (hc : PFun P Gl f cargs R)
    (ho : o.op = .call ⟨.value fop, args, ats⟩) (hf : pe env fop = .fn f caps) (hent : Enters P f) (hle : Le (args.toList.map (pe env) ++ caps) cargs)
    (hrefs : (args.toList.map (pe env) ++ caps).all (PV.refs (fun _ => false) 5) = true) (hK : ∀ r, R r → r.refs (fun _ => false) 5 = true ∧ K r st) : OpP P Gl B o env st K := by
  have h0 : (fun (_ : Nat) => false) = ([] : List Nat).contains := by funext i; rfl
  have hr0 : ∀ p ∈ (args.toList.map (pe env) ++ caps), p.refs (fun _ => false) 5 = true := fun p hp => List.all_eq_true.1 hrefs p hp
  refine op_call [] ho hf hent List.nodup_nil rfl (by rw [← h0]; exact hrefs) rfl (cargs := cargs) (cst := []) ?_ trivial hc ?_
  · have : (args.toList.map (pe env) ++ caps).map (PV.ren (idxIn []) 5) = args.toList.map (pe env) ++ caps := by
      rw [List.map_congr_left (g := fun x => x) (fun p hp => PV.ren_none 5 p (hr0 p hp))]; simp
    rw [this]; exact hle
  · rintro r st' ⟨h1, rfl⟩
    obtain ⟨h2, h3⟩ := hK r h1
    refine ⟨?_, rfl, ?_⟩
    · exact PV.refs_true h2
    · rw [PV.ren_none 5 r h2]
      have : merge [] st [] = st := by
        have : ∀ (l : List PObj) k, mergeAux [] [] k l = l := by
          intro l
          induction l with
          | nil => intro k; rfl
          | cons x l ih => intro k; simp [mergeAux, ih]
        simp [merge, this]
      simpa [this] using h3
end rules
end Go.Pw
