/-
 Regions whose order is open: steps, and free operations taken first (over any program).
 Free operations of the reckoner: they may be taken first.
 Steps and sequences of operations.
-/
import Derived.Orders
import Derived.Still
import Derived.Test.YtokclomhkggikaaGreatDoorVEvApp2
namespace Go.Ev
open Go
noncomputable section
section draw
variable {P : Program} {gl : List (Nat × List V)} {N : Nat} {ops : Array Oper} {env : Env} {st : St} {β : List Nat}
theorem den_undef (β : List Nat) : Den β (.tup []) undef := DenL.tup (vs := []) ⟨rfl, by intro j c v h; simp at h⟩
def Left (gl : List (Nat × List V)) (B : Base) (dst : Option Tmp) (tmps : List Value) (env : Env) (β : List Nat) (K : Env → St → List Nat → Prop) (a' : Act) (w' : World) : Prop :=
 ∃ v x st' β', a' = (⟨tmps.toArray, []⟩ : Act).put dst v ∧ K (putE env dst x) st' β' ∧ Pre β β' ∧ Den β' x v ∧ Inv gl B w' β' (lst st')
def StepD (P : Program) (gl : List (Nat × List V)) (N : Nat) (ops : Array Oper) (i : Nat) (env : Env) (st : St) (β : List Nat) (K : Env → St → List Nat → Prop) : Prop :=
 ∀ o, ops[i]? = some o → ∀ B w tmps, Inv gl B w β (lst st) → FrR N β env tmps →
  (Region.wanted o (yielded ops tmps.toArray) = true → ∀ Q, o.wp P ⟨tmps.toArray, []⟩ w (Left gl B o.dst tmps env β K) Q) ∧
  (Region.wanted o (yielded ops tmps.toArray) = false → K (putE env o.dst (.tup [])) st β)
theorem StepD.mono {i : Nat} {K K' : Env → St → List Nat → Prop} (h : StepD P gl N ops i env st β K) (hk : ∀ e s b, Pre β b → K e s b → K' e s b) : StepD P gl N ops i env st β K' := by
 intro o ho B w tmps hi he
 obtain ⟨h1, h2⟩ := h o ho B w tmps hi he
 refine ⟨fun hw Q => Oper.wp_mono ?_ (h1 hw Q), fun hw => hk _ _ _ (.refl _) (h2 hw)⟩
 rintro a' w' ⟨v, x, st', β', g1, g2, g3, g4⟩
 exact ⟨v, x, st', β', g1, hk _ _ _ g3 g2, g3, g4⟩
def DOk (N : Nat) (ops : Array Oper) : Prop := ∀ (j : Nat) o d, ops[j]? = some o → o.dst = some d → d < 512 ∧ d < N
theorem StepD.sound {i : Nat} (hd : DOk N ops) {K : Env → St → List Nat → Prop} (h : StepD P gl N ops i env st β K) {F : Act → World → Prop} {B : Base} {w : World} {tmps : List Value}
  (hi : Inv gl B w β (lst st)) (he : FrR N β env tmps) (h0 : ops[i]? = none → F ⟨tmps.toArray, []⟩ w)
  (hF : ∀ env' st' w' β' tmps', K env' st' β' → Inv gl B w' β' (lst st') → FrR N β' env' tmps' → Pre β β' → F ⟨tmps'.toArray, []⟩ w') (Q' : Exit → Act → World → Prop) :
  wpOp P ops Q' i F ⟨tmps.toArray, []⟩ w := by
 unfold wpOp
 cases ho : ops[i]? with
 | none => exact h0 ho
 | some o =>
  obtain ⟨h1, h2⟩ := h o ho B w tmps hi he
  have hdo : ∀ d, o.dst = some d → d < 512 ∧ d < N := fun d hh => hd i o d ho hh
  by_cases hw : Region.wanted o (yielded ops tmps.toArray) = true
  ·simp only [hw, if_true]
   refine .inl (Oper.wp_mono ?_ (h1 hw Q'))
   rintro a' w' ⟨v, x, st', β', rfl, g2, g3, g4, g5⟩
   rw [put_tmps]
   exact hF _ _ _ _ _ g2 g5 ((he.mono g3).put hdo g4) g3
  ·rw [Bool.not_eq_true] at hw
   simp only [hw, Bool.false_eq_true, if_false]
   rw [put_tmps]
   exact hF _ _ _ _ _ (h2 hw) hi (he.put hdo (den_undef _)) (.refl _)
def LOK (ops : Array Oper) (j : Nat) (st st' : St) (L : List (Nat × Nat)) : Prop := ∀ k pos, (k, pos) ∈ L → waits ops j k = true ∨ (lst st')[pos]? = (lst st)[pos]?
def EvD (P : Program) (gl : List (Nat × List V)) (N : Nat) (ops : Array Oper) (F : Env → St → List Nat → Prop) : Nat → Array Bool → Env → St → List (Nat × Nat) → List Nat → Prop
 | 0, listed, env, st, _, β => Region.ready .any ops listed = [] ∧ F env st β
 | n + 1, listed, env, st, L, β => (Region.ready .any ops listed = [] → F env st β) ∧
  ∀ i ∈ Region.ready .any ops listed, StepD P gl N ops i env st β fun env' st' β' => LOK ops i st st' L ∧ EvD P gl N ops F n (listed.setIfInBounds i true) env' st' L β'
theorem EvD.drop {F : Env → St → List Nat → Prop} : ∀ (n : Nat) {listed : Array Bool} {env : Env} {st : St} {L L' : List (Nat × Nat)} {β : List Nat}, (∀ x ∈ L', x ∈ L) → EvD P gl N ops F n listed env st L β → EvD P gl N ops F n listed env st L' β
 | 0, _, _, _, _, _, _, _, h => h
 | n + 1, _, _, _, _, _, _, hs, h => ⟨h.1, fun i hi => (h.2 i hi).mono fun _ _ _ _ ⟨h1, h2⟩ => ⟨fun k pos hm => h1 k pos (hs _ hm), EvD.drop n hs h2⟩⟩
theorem EvD.sound {F : Env → St → List Nat → Prop} (hd : DOk N ops) {B : Base} {Q : Exit → Act → World → Prop} : ∀ (n : Nat) {listed : Array Bool} {env : Env} {st : St} {L : List (Nat × Nat)} {β : List Nat}, EvD P gl N ops F n listed env st L β →
  ∀ {w : World} {tmps : List Value}, Inv gl B w β (lst st) → FrR N β env tmps →
  (∀ env' st' w' β' tmps', F env' st' β' → Inv gl B w' β' (lst st') → FrR N β' env' tmps' → Pre β β' → Q .normal ⟨tmps'.toArray, []⟩ w') → wpAny P .any ops Q n listed ⟨tmps.toArray, []⟩ w
 | 0, _, _, _, _, _, h, _, _, hi, he, hQ => ⟨h.1, hQ _ _ _ _ _ h.2 hi he (.refl _)⟩
 | n + 1, listed, env, st, L, β, h, w, tmps, hi, he, hQ => by
  refine ⟨fun h0 => hQ _ _ _ _ _ (h.1 h0) hi he (.refl _), fun i hin => (h.2 i hin).sound hd hi he ?_ ?_ _⟩
  ·intro hno
   obtain ⟨_, o, ho, _⟩ := mem_ready.1 hin
   rw [hno] at ho; cases ho
  ·rintro env' st' w' β' tmps' ⟨_, h2⟩ hi' he' hp
   exact EvD.sound hd n h2 hi' he' fun e s w2 b t f i2 r p => hQ e s w2 b t f i2 r (hp.trans p)
def Free (P : Program) (gl : List (Nat × List V)) (ops : Array Oper) (o : Oper) (x : V) (pos : Option Nat) (env : Env) (st : St) (β : List Nat) : Prop :=
 ∀ β' (st' : St) (B : Base) w (tmps : List Value), Pre β β' → Inv gl B w β' (lst st') → (∀ t ∈ o.looksAt ops, t < 512 → Den β' (getE env t) (tmps.getD t undef)) → (∀ p, pos = some p → (lst st')[p]? = (lst st)[p]?) →
  (Region.wanted o (yielded ops tmps.toArray) = true → ∃ v, (execOp (⟨tmps.toArray, []⟩ : Act).eval o).run P w = .ok (.value v) w ∧ Den β' x v) ∧
  (Region.wanted o (yielded ops tmps.toArray) = false → x = .tup [])
theorem Free.agree {o : Oper} {x : V} {pos : Option Nat} (h : Free P gl ops o x pos env st β) {env' : Env} {st' : St} {β' : List Nat} (ha : ∀ t ∈ o.looksAt ops, t < 512 → getE env' t = getE env t)
  (hp : ∀ p, pos = some p → (lst st')[p]? = (lst st)[p]?) (hb : Pre β β') : Free P gl ops o x pos env' st' β' := by
 intro β2 st2 B w tmps h1 h2 h3 h4
 exact h β2 st2 B w tmps (hb.trans h1) h2 (fun t ht hlt => by rw [← ha t ht hlt]; exact h3 t ht hlt) fun p hpp => (h4 p hpp).trans (hp p hpp)
theorem Free.step {o : Oper} {x : V} {pos : Option Nat} {i : Nat} (hi : ops[i]? = some o) (h : Free P gl ops o x pos env st β) {K : Env → St → List Nat → Prop} (hK : K (putE env o.dst x) st β) : StepD P gl N ops i env st β K := by
 intro o' ho' B w tmps hin he
 rw [hi] at ho'; cases ho'
 obtain ⟨h1, h2⟩ := h β st B w tmps (.refl _) hin (fun t _ hlt => he.env t hlt) (fun _ _ => rfl)
 refine ⟨fun hw Q => ?_, fun hw => by rw [h2 hw] at hK; exact hK⟩
 obtain ⟨v, hv, hd⟩ := h1 hw
 unfold Oper.wp
 rw [hv]
 exact ⟨v, x, st, β, rfl, hK, .refl _, hd, hin⟩
theorem putE_get {d : Option Tmp} {x : V} {t : Nat} (ht : t < 512) (hd : ∀ e, d = some e → e < 512) (h : ∀ e, d = some e → t ≠ e) : getE (putE env d x) t = getE env t := by
 cases d with
 | none => rfl
 | some e => simp only [putE]; rw [getE_set env x (hd e rfl) ht, if_neg (fun hh => h e rfl hh.symm)]
theorem E8.ext_get {α : Type} {x y : E8 α} (h : ∀ i, i < 8 → x.get i = y.get i) : x = y := by
 cases x; cases y
 have h0 := h 0 (by omega)
 have h1 := h 1 (by omega)
 have h2 := h 2 (by omega)
 have h3 := h 3 (by omega)
 have h4 := h 4 (by omega)
 have h5 := h 5 (by omega)
 have h6 := h 6 (by omega)
 have h7 := h 7 (by omega)
 simp only [E8.get] at h0 h1 h2 h3 h4 h5 h6 h7
 subst h0 h1 h2 h3 h4 h5 h6 h7
 rfl
theorem env_ext {a b : Env} (h : ∀ t, t < 512 → getE a t = getE b t) : a = b := by
 refine E8.ext_get fun i hi => E8.ext_get fun j hj => E8.ext_get fun k hk => ?_
 have := h (64 * i + 8 * j + k) (by omega)
 unfold getE at this
 rwa [show (64 * i + 8 * j + k) / 64 = i by omega, show (64 * i + 8 * j + k) / 8 % 8 = j by omega, show (64 * i + 8 * j + k) % 8 = k by omega] at this
theorem putE_comm {d e : Option Tmp} {x y : V} (hd : ∀ t, d = some t → t < 512) (he : ∀ t, e = some t → t < 512) (h : ∀ t, d = some t → e ≠ some t) : putE (putE env d x) e y = putE (putE env e y) d x := by
 cases d with
 | none => rfl
 | some t =>
  cases e with
  | none => rfl
  | some u =>
   refine env_ext fun r hr => ?_
   have hne : t ≠ u := fun hh => h t rfl (by rw [hh])
   have ht := hd t rfl
   have hu := he u rfl
   simp only [putE]
   rw [getE_set _ _ hu hr, getE_set _ _ ht hr, getE_set _ _ ht hr, getE_set _ _ hu hr]
   by_cases h1 : u = r
   ·subst h1; simp [hne]
   ·simp [h1]
theorem StepD.unput (hdk : DOk N ops) {i j : Nat} {oi oj : Oper} {x : V} {pos : Option Nat} {K : Env → St → List Nat → Prop} (hi : ops[i]? = some oi) (hj : ops[j]? = some oj) (hap : oi.apart ops oj = true)
  (hsj : ∀ cs b, oj.op ≠ .select cs b) (hf : Free P gl ops oi x pos env st β)
  (h : StepD P gl N ops j (putE env oi.dst x) st β K) : StepD P gl N ops j env st β fun env' st' β' => K (putE env' oi.dst x) st' β' := by
 obtain ⟨a1, a2, a3⟩ := Oper.apart_spec hap
 intro o ho B w tmps hin he
 rw [hj] at ho; cases ho
 have hdi : ∀ d, oi.dst = some d → d < 512 ∧ d < N := fun d hh => hdk i oi d hi hh
 have hdj : ∀ d, oj.dst = some d → d < 512 ∧ d < N := fun d hh => hdk j oj d hj hh
 obtain ⟨v, hv⟩ : ∃ v, Den β x v := by
  obtain ⟨f1, f2⟩ := hf β st B w tmps (.refl _) hin (fun t _ hlt => he.env t hlt) (fun _ _ => rfl)
  by_cases hw : Region.wanted oi (yielded ops tmps.toArray) = true
  ·obtain ⟨v, _, hd⟩ := f1 hw; exact ⟨v, hd⟩
  ·rw [Bool.not_eq_true] at hw; rw [f2 hw]; exact ⟨_, den_undef _⟩
 have he2 : FrR N β (putE env oi.dst x) (putV tmps oi.dst v) := he.put hdi hv
 obtain ⟨g1, g2⟩ := h oj hj B w _ hin he2
 have ew : Region.wanted oj (yielded ops (putV tmps oi.dst v).toArray) = Region.wanted oj (yielded ops tmps.toArray) := by
  have := wanted_put (ops := ops) oj ⟨tmps.toArray, []⟩ oi.dst v a1
  rwa [put_tmps] at this
 have ee : execOp (⟨(putV tmps oi.dst v).toArray, []⟩ : Act).eval oj = execOp (⟨tmps.toArray, []⟩ : Act).eval oj := by
  have := execOp_put (ops := ops) oj hsj ⟨tmps.toArray, []⟩ oi.dst v a1
  rwa [put_tmps] at this
 have cm : ∀ y : V, putE (putE env oi.dst x) oj.dst y = putE (putE env oj.dst y) oi.dst x := fun y => putE_comm (fun t ht => (hdi t ht).1) (fun t ht => (hdj t ht).1) a2
 rw [ew] at g1 g2
 refine ⟨fun hw Q => ?_, fun hw => by have := g2 hw; rw [cm] at this; exact this⟩
 have hwp := g1 hw fun e _ w => Q e ⟨tmps.toArray, []⟩ w
 -- the same operation, from the frame that has not x yet
 have inj : ∀ u u' : Value, (⟨(putV tmps oi.dst v).toArray, []⟩ : Act).put oj.dst u = (⟨(putV tmps oi.dst v).toArray, []⟩ : Act).put oj.dst u' → (⟨tmps.toArray, []⟩ : Act).put oj.dst u = (⟨tmps.toArray, []⟩ : Act).put oj.dst u' := by
  intro u u' hh
  cases hd : oj.dst with
  | none => rfl
  | some d =>
   rw [hd] at hh
   have hl : d < tmps.length := Nat.lt_of_lt_of_le (hdj d hd).2 he.len
   have hl' : d < (putV tmps oi.dst v).length := by cases oi.dst <;> simp [putV, hl]
   simp only [put_tmps, putV, Act.mk.injEq, and_true] at hh
   have h2 : ((putV tmps oi.dst v).set d u)[d]? = ((putV tmps oi.dst v).set d u')[d]? := by
    exact congrArg (fun a : Array Value => a.toList[d]?) hh
   rw [List.getElem?_set_self hl', List.getElem?_set_self hl'] at h2
   cases h2; rfl
 have key : ∀ (u : Value) w', Left gl B oj.dst (putV tmps oi.dst v) (putE env oi.dst x) β K ((⟨(putV tmps oi.dst v).toArray, []⟩ : Act).put oj.dst u) w' →
   Left gl B oj.dst tmps env β (fun env' st' β' => K (putE env' oi.dst x) st' β') ((⟨tmps.toArray, []⟩ : Act).put oj.dst u) w' := by
  rintro u w' ⟨v', y, st', β', e1, e2, e3, e4, e5⟩
  exact ⟨v', y, st', β', inj u v' e1, by rw [cm] at e2; exact e2, e3, e4, e5⟩
 unfold Oper.wp at hwp ⊢
 rw [ee] at hwp
 generalize (execOp (⟨tmps.toArray, []⟩ : Act).eval oj).run P w = r at *
 cases r with
 | ok n w' =>
  cases n <;> simp only [Oper.upon] at hwp ⊢
  case value u => exact key u _ hwp
  case skip => exact key _ _ hwp
  case defer d =>
   obtain ⟨v', y, st', β', e1, _⟩ := hwp
   exfalso
   rw [put_tmps] at e1
   cases hd : oj.dst <;> rw [hd] at e1 <;> simp [Act.put] at e1
  case enter f args =>
   refine Calls.mono hwp fun e w'' he => ?_
   cases e with
   | returned u => exact key u _ he
   | panicked c => exact he
   | outgrown => obtain ⟨_, w3, h3⟩ := he; exact ⟨_, w3, h3⟩
  case row row args => exact Rows.mono hwp fun u w'' he => key u _ he
 | halt x w' => cases x <;> simp only [Oper.upon] at hwp ⊢ <;> exact hwp
theorem StepD.shape {j : Nat} {oj : Oper} (hj : ops[j]? = some oj) {K : Env → St → List Nat → Prop} (h : StepD P gl N ops j env st β K) :
  StepD P gl N ops j env st β fun env' st' β' => (Pre β β' ∧ ∃ y, env' = putE env oj.dst y) ∧ K env' st' β' := by
 intro o ho B w tmps hi he
 rw [hj] at ho; cases ho
 obtain ⟨h1, h2⟩ := h oj hj B w tmps hi he
 refine ⟨fun hw Q => Oper.wp_mono ?_ (h1 hw Q), fun hw => ⟨⟨.refl _, _, rfl⟩, h2 hw⟩⟩
 rintro a' w' ⟨v, x, st', β', g1, g2, g3, g4⟩
 exact ⟨v, x, st', β', g1, ⟨⟨g3, x, rfl⟩, g2⟩, g3, g4⟩
theorem EvD.first (hdk : DOk N ops) (hsel : ∀ (j : Nat) (o : Oper) cs b, ops[j]? = some o → o.op ≠ .select cs b) {F : Env → St → List Nat → Prop} {i : Nat} {oi : Oper} {x : V} {pos : Option Nat} (hi : ops[i]? = some oi) :
  ∀ (n : Nat) (listed : Array Bool) (env : Env) (st : St) (L : List (Nat × Nat)) (β : List Nat),
   (∀ j oj, ops[j]? = some oj → j ≠ i → listed.getD j true = false → (∀ e ∈ oj.after, Region.binds .any e = true → e.on ≠ i) → oi.apart ops oj = true) →
   i ∈ Region.ready .any ops listed → Free P gl ops oi x pos env st β →
   EvD P gl N ops F n (listed.setIfInBounds i true) (putE env oi.dst x) st ((pos.toList.map fun p => (i, p)) ++ L) β → EvD P gl N ops F (n + 1) listed env st L β := by
 have hdi : ∀ d, oi.dst = some d → d < 512 := fun d hh => (hdk i oi d hi hh).1
 have dropL : ∀ n listed env st L β, EvD P gl N ops F n (listed : Array Bool) env st ((pos.toList.map fun p => (i, p)) ++ L) β → EvD P gl N ops F n listed env st L β := fun n listed env st L β h =>
  EvD.drop n (fun x hx => List.mem_append_right _ hx) h
 intro n
 induction n with
 | zero =>
  intro listed env st L β _ hr hf H
  refine ⟨fun h => (by rw [h] at hr; cases hr), fun j hj => ?_⟩
  by_cases hji : j = i
  ·subst hji
   exact hf.step hi ⟨fun _ _ _ => .inr rfl, dropL _ _ _ _ _ _ H⟩
  ·have := ready_mono hj hji
   rw [H.1] at this
   cases this
 | succ n ih =>
  intro listed env st L β hfree hr hf H
  refine ⟨fun h => (by rw [h] at hr; cases hr), fun j hj => ?_⟩
  by_cases hji : j = i
  ·subst hji
   exact hf.step hi ⟨fun _ _ _ => .inr rfl, dropL _ _ _ _ _ _ H⟩
  ·have h1 := H.2 j (ready_mono hj hji)
   obtain ⟨hjun, oj, hoj, hall⟩ := mem_ready.1 hj
   have hnot : ∀ e ∈ oj.after, Region.binds .any e = true → e.on ≠ i := fun e he hb heq => by
    have h1 := hall e he hb
    have h0 := (mem_ready.1 hr).1
    rw [heq] at h1
    rcases Nat.lt_or_ge i listed.size with h' | h'
    ·simp [h'] at h0 h1; rw [h0] at h1; cases h1
    ·simp [Array.getElem?_eq_none h'] at h1
   have hap := hfree j oj hoj hji hjun hnot
   obtain ⟨a1, a2, a3⟩ := Oper.apart_spec hap
   have hnw : waits ops j i = false := by
    unfold waits
    simp only [hoj]
    rw [Bool.eq_false_iff]
    intro ht
    rw [Array.any_eq_true'] at ht
    obtain ⟨e, hm, he⟩ := ht
    simp only [Bool.and_eq_true, beq_iff_eq] at he
    exact hnot e hm he.1 he.2
   have h2 := (StepD.unput hdk hi hoj hap (fun cs b => hsel j oj cs b hoj) hf h1).shape hoj
   have hfree' : ∀ k ok, ops[k]? = some ok → k ≠ i → (listed.setIfInBounds j true).getD k true = false →
     (∀ e ∈ ok.after, Region.binds .any e = true → e.on ≠ i) → oi.apart ops ok = true := fun k ok hk hki hun hno => by
    refine hfree k ok hk hki ?_ hno
    by_cases hjk : j = k
    ·subst hjk; exact hjun
    ·rw [getD_set_ne true hjk] at hun; exact hun
   refine h2.mono ?_
   rintro env' st' β' _ ⟨⟨hb, y, rfl⟩, hL, hp⟩
   refine ⟨fun k p hm => hL k p (List.mem_append_right _ hm), ih (listed.setIfInBounds j true) _ st' L β' hfree' (ready_mono hr (Ne.symm hji)) ?_ ?_⟩
   ·refine hf.agree (fun t ht hlt => putE_get hlt (fun e he => (hdk j oj e hoj he).1) fun e he hte => a3 e he (hte ▸ ht)) (fun p hpp => ?_) hb
    rcases hL i p (List.mem_append_left _ (by simp [hpp])) with h | h
    ·rw [hnw] at h; cases h
    ·exact h
   ·rw [Array.setIfInBounds_comm _ _ hji]
    exact hp
end draw
end
end Go.Ev
namespace Go.Ev
open Go
noncomputable section
def mkSt (l : List O) : St := ⟨l.length, 0, l.reverse, []⟩
theorem mkSt_ok (l : List O) : (mkSt l).Ok := ⟨by simp [mkSt], Nat.zero_le _, by intro i h; cases h⟩
theorem mkSt_lst (l : List O) : lst (mkSt l) = l := by simp [lst, mkSt]
theorem opG_pure (x : Operand) (env : Env) : (∃ p, ∀ (k : V → R), opG x env k = k p) ∨ ∀ (k : V → R), opG x env k = none := by
 cases x with
 | tmp t =>
  by_cases ht : t < 512
  ·exact .inl ⟨_, fun k => getC_eq ht env k⟩
  ·exact .inr fun k => getC_fail ht env k
 | const v =>
  cases hc : constOk v with
  | false => exact .inr fun k => by change (opC (.const v)).v env k = none; simp only [opC, hc]; rfl
  | true => exact .inl ⟨cvAgg v, fun k => by change (opC (.const v)).v env k = _; simp only [opC, hc, fV_eq]; rfl⟩
 | global g => exact .inl ⟨.gptr g 0, fun k => by change (opC (.global g)).v env k = _; simp only [opC, fNat_eq]; rfl⟩
 | func f => exact .inl ⟨.fn f [] [], fun k => by change (opC (.func f)).v env k = _; simp only [opC, fNat_eq]; rfl⟩
theorem eval_tmp (tmps : List Value) (t : Tmp) : (⟨tmps.toArray, []⟩ : Act).eval (.tmp t) = tmps.getD t undef := by
 simp only [Act.eval, Array.getD, List.getD]
 by_cases hl : t < tmps.length <;> simp [hl]
def mixT (S : List Nat) (tmps tmps0 : List Value) : List Value := (List.range (512 + tmps.length)).map fun t => if t < 512 ∧ t ∉ S then tmps0.getD t undef else tmps.getD t undef
theorem mixT_get (S : List Nat) (tmps tmps0 : List Value) (t : Nat) : (mixT S tmps tmps0).getD t undef = if t < 512 ∧ t ∉ S then tmps0.getD t undef else tmps.getD t undef := by
 unfold mixT
 by_cases ht : t < 512 + tmps.length
 ·simp [List.getD, ht]
 ·have h1 : tmps.getD t undef = undef := by simp [List.getD, List.getElem?_eq_none (show tmps.length ≤ t by omega)]
  rw [if_neg (by omega), h1]
  simp [List.getD, show ¬ t < 512 + tmps.length from ht]
def IndAt (s : Sm) (env : Env) (pos : Option Nat) : Prop :=
 ∀ call st st', st.Ok → st'.Ok → (∀ p, pos = some p → (lst st')[p]? = (lst st)[p]?) → s call env st' K0 = s call env st K0
theorem valS_some {s : Sm} {call : Call} {env : Env} {st : St} {k : V → R} {outs : List Dl} (h : valS s call env st k = some outs) : ∃ d x r, s call env st K0 = some [d] ∧ d.vs = x :: r ∧ k x = some outs := by
 unfold valS at h
 split at h
 ·rename_i l hl
  cases l with
  | nil => cases h
  | cons d l =>
   cases l with
   | cons _ _ => cases h
   | nil =>
    simp only [] at h
    split at h
    ·cases h
    ·rename_i x r hd; exact ⟨d, x, r, hl, hd, h⟩
 ·cases h
section
variable {P : Program} {gl : List (Nat × List V)} {N : Nat} {ops : Array Oper} {env : Env} {st : St} {β : List Nat} {CO : Call → Prop} {call : Call}
theorem val_free {o : Oper} {s : Sm} (hv : ValOk P gl CO o.op s) (hc : CO call) {pos : Option Nat} (hind : IndAt s env pos) {d : Dl} {x : V} {r : List V} (hs : s call env st K0 = some [d]) (hd : d.vs = x :: r) (hok : st.Ok)
  {tmps0 : List Value} (h0 : EnvRel β env tmps0) (hsel : ∀ cs b, o.op ≠ .select cs b) {β' : List Nat} {st' : St} {B : Base} {w : World} {tmps : List Value} (hb : Pre β β') (hi : Inv gl B w β' (lst st'))
  (he : ∀ t ∈ o.looksAt ops, t < 512 → Den β' (getE env t) (tmps.getD t undef)) (hp : ∀ p, pos = some p → (lst st')[p]? = (lst st)[p]?) :
  ∃ v, (execOp (⟨tmps.toArray, []⟩ : Act).eval o).run P w = .ok (.value v) w ∧ Den β' x v := by
 have hs' := hind call st (mkSt (lst st')) hok (mkSt_ok _) (fun p h => by rw [mkSt_lst]; exact hp p h)
 rw [hs] at hs'
 have hem : EnvRel β' env (mixT (o.looksAt ops) tmps tmps0) := fun t ht => by
  rw [mixT_get]
  by_cases hS : t ∈ o.looksAt ops
  ·rw [if_neg (by simp [hS])]; exact he t hS ht
  ·rw [if_pos ⟨ht, hS⟩]; exact (h0 t ht).mono hb
 obtain ⟨x', v, h1, h2, outs', h3, h4⟩ := hv o rfl call hc env (mkSt (lst st')) K0 _ (mkSt_ok _) hs' B w β' _ (by rw [mkSt_lst]; exact hi) hem
 have hx : x' = x := by
  cases h3
  have := h4 _ (List.mem_singleton.2 rfl)
  rw [List.mem_singleton] at this
  rw [← this] at hd
  cases hd; rfl
 rw [hx] at h2
 refine ⟨v, ?_, h2⟩
 rw [← h1]
 congr 1
 refine execOp_congr o hsel fun y hy => ?_
 cases y with
 | tmp t =>
  have hm : t ∈ o.looksAt ops := List.mem_append_left _ (List.mem_filterMap.2 ⟨.tmp t, by simpa using hy, rfl⟩)
  rw [eval_tmp, eval_tmp, mixT_get, if_neg (by simp [hm])]
 | _ => rfl
theorem withD_spec {γ : Type} (dst : Option Tmp) (c : U → γ) : ∃ u : U, withD dst c = c u ∧ ∀ env x (k : Env → R) outs, u env x k = some outs → k (putE env dst x) = some outs := by
 cases dst with
 | none => exact ⟨noU, rfl, fun env x k outs h => h⟩
 | some d =>
  refine ⟨(putC d).v, rfl, fun env x k outs h => ?_⟩
  by_cases hd : d < 512
  ·rwa [putC_eq hd] at h
  ·rw [putC_fail hd] at h; cases h
theorem dstOf_eq (ops : Array Oper) (j : Nat) : dstOf ops j = (ops[j]?).bind (·.dst) := by
 unfold dstOf
 rw [Array.getElem?_toList]
 cases ops[j]? <;> rfl
theorem yielded_of {j : Nat} {d : Tmp} (hd : (ops[j]?).bind (·.dst) = some d) {tmps : List Value} {y : V} (hy : Den β y (tmps.getD d undef)) :
  (∀ b, y = .bool b → yielded ops tmps.toArray j = some b) ∧ (y = .tup [] → yielded ops tmps.toArray j = none) := by
 unfold yielded
 rw [hd]
 simp only [Option.bind_some, List.getElem?_toArray]
 have hu : undef = .tuple #[] := rfl
 constructor
 ·rintro b rfl
  have := hy.bool_inv
  cases hx : tmps[d]? with
  | none => simp [List.getD, hx, hu] at this
  | some v => simp [List.getD, hx] at this; subst this; rfl
 ·rintro rfl
  obtain ⟨vs, hv, hl⟩ := hy.tup_inv
  cases hx : tmps[d]? with
  | none => rfl
  | some v => simp [List.getD, hx] at hv; subst hv; rfl
theorem guard_some {o : Oper} {u : U} {s : Step} {s' : Step} (hs : guardS ops o u s = ⟨s'⟩) {K : Env → St → R} {outs : List Dl} (h : s' call env st K = some outs) :
  (o.guard = none ∧ s call env st K = some outs) ∨
  ∃ j w d, o.guard = some (j, w) ∧ (ops[j]?).bind (·.dst) = some d ∧ d < 512 ∧ ((getE env d = .bool w ∧ s call env st K = some outs) ∨ ((getE env d = .bool (!w) ∨ getE env d = .tup []) ∧ u env (.tup []) (fun env => K env st) = some outs)) := by
 unfold guardS at hs
 cases hg : o.guard with
 | none => rw [hg] at hs; cases hs; exact .inl ⟨rfl, h⟩
 | some g =>
  obtain ⟨j, w⟩ := g
  rw [hg] at hs
  simp only [dstOf_eq] at hs
  cases hd : (ops[j]?).bind (·.dst) with
  | none => rw [hd] at hs; cases hs; cases h
  | some d =>
   rw [hd] at hs
   simp only [fBool_eq] at hs
   refine .inr ⟨j, w, d, rfl, hd, ?_⟩
   have hs2 : s' = stepG (getC d).v w u s := by cases hs; rfl
   subst hs2
   unfold stepG at h
   by_cases hlt : d < 512
   ·rw [getC_eq hlt] at h
    refine ⟨hlt, ?_⟩
    split at h
    ·rename_i b hb
     rw [hb]
     cases b <;> cases w <;> first | exact .inl ⟨rfl, h⟩ | exact .inr ⟨.inl rfl, h⟩
    ·rename_i hb; exact .inr ⟨.inr hb, h⟩
    ·cases h
   ·rw [getC_fail hlt] at h; cases h
theorem guard_looks {o : Oper} {j : Nat} {w : Bool} {d : Tmp} (hg : o.guard = some (j, w)) (hd : (ops[j]?).bind (·.dst) = some d) : d ∈ o.looksAt ops := by
 simp [Oper.looksAt, hg, hd]
theorem free_ok {o : Oper} {s : Sm} {step : Step} (hcp : compOp P gl o.op = some s) (hv : ValOk P gl CO o.op s) (hc : CO call) {pos : Option Nat} (hind : IndAt s env pos) (hok : st.Ok) {tmps0 : List Value} (h0 : EnvRel β env tmps0)
  (hsel : ∀ cs b, o.op ≠ .select cs b) (hs : compOF P gl ops o = ⟨step⟩) {K : Env → St → R} {outs : List Dl} (h : step call env st K = some outs) : ∃ x, Free P gl ops o x pos env st β ∧ K (putE env o.dst x) st = some outs := by
 obtain ⟨u, hu, hus⟩ := withD_spec o.dst fun u => match compOp P gl o.op with
  | some s => guardS ops o u (freeO u s)
  | none => (⟨failS⟩ : Bx0 Step)
 replace hs := hu.symm.trans hs
 simp only [hcp] at hs
 have run : freeO u s call env st K = some outs → ∃ d x r, s call env st K0 = some [d] ∧ d.vs = x :: r ∧ K (putE env o.dst x) st = some outs := fun h => by
  obtain ⟨d, x, r, h1, h2, h3⟩ := valS_some h
  exact ⟨d, x, r, h1, h2, hus _ _ _ _ h3⟩
 rcases guard_some hs h with ⟨hg, h⟩ | ⟨j, w, d, hg, hd, hlt, ⟨hb, h⟩ | ⟨hb, h⟩⟩
 ·obtain ⟨d, x, r, h1, h2, h3⟩ := run h
  refine ⟨x, fun β' st' B w tmps g1 g2 g3 g4 => ⟨fun _ => val_free hv hc hind h1 h2 hok h0 hsel g1 g2 g3 g4, fun hw => ?_⟩, h3⟩
  simp [Region.wanted, hg] at hw
 ·obtain ⟨d', x, r, h1, h2, h3⟩ := run h
  refine ⟨x, fun β' st' B w' tmps g1 g2 g3 g4 => ⟨fun _ => val_free hv hc hind h1 h2 hok h0 hsel g1 g2 g3 g4, fun hw => ?_⟩, h3⟩
  have := (yielded_of hd (g3 d (guard_looks hg hd) hlt)).1 _ hb
  simp [Region.wanted, hg, this] at hw
 ·refine ⟨.tup [], fun β' st' B w' tmps g1 g2 g3 g4 => ⟨fun hw => ?_, fun _ => rfl⟩, hus _ _ _ _ h⟩
  have := yielded_of hd (g3 d (guard_looks hg hd) hlt)
  rcases hb with hb | hb
  ·have := this.1 _ hb
   simp [Region.wanted, hg, this] at hw
  ·have := this.2 hb
   simp [Region.wanted, hg, this] at hw
end
end
end Go.Ev
namespace Go.Ev
open Go
noncomputable section
def KO (K : Env → St → R) (outs : List Dl) (env : Env) (st : St) : Prop := ∃ outs', K env st = some outs' ∧ ∀ d ∈ outs', d ∈ outs
theorem KO.of {K : Env → St → R} {outs : List Dl} {env : Env} {st : St} (h : K env st = some outs) : KO K outs env st := ⟨outs, h, fun _ h => h⟩
def OpsOk (P : Program) (gl : List (Nat × List V)) (CO : Call → Prop) : Prop := ∀ op s, compOp P gl op = some s → SemOk P gl CO op s
section
variable {P : Program} {gl : List (Nat × List V)} {N : Nat} {ops : Array Oper} {CO : Call → Prop}
def StepR (P : Program) (gl : List (Nat × List V)) (CO : Call → Prop) (N : Nat) (ops : Array Oper) (o : Oper) (s : Step) : Prop :=
 ∀ call, CO call → ∀ env st K outs, st.Ok → s call env st K = some outs → ∀ B w β tmps, Inv gl B w β (lst st) → FrR N β env tmps →
  (Region.wanted o (yielded ops tmps.toArray) = true → ∀ Q, o.wp P ⟨tmps.toArray, []⟩ w (Left gl B o.dst tmps env β fun e s _ => Good st s ∧ KO K outs e s) Q) ∧
  (Region.wanted o (yielded ops tmps.toArray) = false → KO K outs (putE env o.dst (.tup [])) st)
theorem compS_ok (hops : OpsOk P gl CO) {o : Oper} {u : U} (hus : ∀ env x (k : Env → R) outs, u env x k = some outs → k (putE env o.dst x) = some outs) {s : Step} (hs : compS P gl u o.op = ⟨s⟩)
  {call : Call} (hc : CO call) {env : Env} {st : St} {K : Env → St → R} {outs : List Dl} (hok : st.Ok) (h : s call env st K = some outs) :
  OpE P gl o env st fun x st' => KO K outs (putE env o.dst x) st' := by
 have fin : OpE P gl o env st (KOk (fun v st => u env v fun env => K env st) outs) → OpE P gl o env st fun x st' => KO K outs (putE env o.dst x) st' := by
  intro h B w β tmps Q hi he
  refine Oper.wp_mono ?_ (h B w β tmps Q hi he)
  rintro a' w' ⟨v, x, st', β', g1, ⟨outs', g2, g3⟩, g4⟩
  exact ⟨v, x, st', β', g1, ⟨outs', hus _ _ _ _ g2, g3⟩, g4⟩
 refine fin ?_
 have gen : ∀ op, o.op = op → (match compOp P gl op with | some s => (⟨stepO u s⟩ : Bx0 Step) | none => ⟨failS⟩) = ⟨s⟩ → OpE P gl o env st (KOk (fun v st => u env v fun env => K env st) outs) := by
  intro op ho hs
  cases hcp : compOp P gl op with
  | none => rw [hcp] at hs; cases hs; cases h
  | some s0 =>
   rw [hcp] at hs
   have : s = stepO u s0 := by cases hs; rfl
   subst this
   exact hops op s0 hcp o ho call hc env st _ outs hok h
 have mv : ∀ x, (o.op = .move x ∨ o.op = .assign x) → s = moveO u (opG x) → OpE P gl o env st (KOk (fun v st => u env v fun env => K env st) outs) := by
  intro x ho hs
  subst hs
  exact (ok_move (CO := CO) ho).sem o rfl call hc env st _ outs hok h
 cases ho : o.op <;> rw [ho] at hs <;> first
  | exact mv _ (.inl ho) (by cases hs; rfl)
  | exact mv _ (.inr ho) (by cases hs; rfl)
  | exact gen _ ho hs
theorem step_ok (hops : OpsOk P gl CO) {o : Oper} {s : Step} (hs : compO P gl ops o = ⟨s⟩) : StepR P gl CO N ops o s := by
 intro call hc env st K outs hok h B w β tmps hi he
 obtain ⟨u, hu, hus⟩ := withD_spec o.dst fun u => match compS P gl u o.op with | ⟨s⟩ => guardS ops o u s
 replace hs := hu.symm.trans hs
 cases hs0 : compS P gl u o.op with
 | mk s0 =>
 rw [hs0] at hs
 have run : s0 call env st K = some outs → ∀ Q, o.wp P ⟨tmps.toArray, []⟩ w (Left gl B o.dst tmps env β fun e s _ => Good st s ∧ KO K outs e s) Q := fun h Q => by
  refine Oper.wp_mono ?_ (compS_ok hops hus hs0 hc hok h B w β tmps Q hi he.env)
  rintro a' w' ⟨v, x, st', β', g1, g2, g3, g4, g5, g6⟩
  exact ⟨v, x, st', β', g1, ⟨g3, g2⟩, g6, g4, g5⟩
 rcases guard_some hs h with ⟨hg, h⟩ | ⟨j, w', d, hg, hd, hlt, ⟨hb, h⟩ | ⟨hb, h⟩⟩
 ·exact ⟨fun _ => run h, fun hw => by simp [Region.wanted, hg] at hw⟩
 ·have := (yielded_of hd (he.env d hlt)).1 _ hb
  exact ⟨fun _ => run h, fun hw => by simp [Region.wanted, hg, this] at hw⟩
 ·have hy := yielded_of hd (he.env d hlt)
  refine ⟨fun hw => ?_, fun _ => .of (hus _ _ _ _ h)⟩
  rcases hb with hb | hb
  ·have := hy.1 _ hb
   simp [Region.wanted, hg, this] at hw
  ·have := hy.2 hb
   simp [Region.wanted, hg, this] at hw
def RealE (gl : List (Nat × List V)) (N : Nat) (B : Base) (β : List Nat) (st : St) (K : Env → St → R) (outs : List Dl) (a : Act) (w : World) : Prop :=
 ∃ env' st' β' tmps', a = ⟨tmps'.toArray, []⟩ ∧ Inv gl B w β' (lst st') ∧ FrR N β' env' tmps' ∧ Pre β β' ∧ Good st st' ∧ KO K outs env' st'
theorem seq_ok (hops : OpsOk P gl CO) (hd : DOk N ops) : ∀ (l : List Oper) (_hl : ∀ o ∈ l, ∃ j : Nat, ops[j]? = some o) (s : Step), compSeq P gl ops l = ⟨s⟩ → ∀ call, CO call → ∀ env st K outs, st.Ok → s call env st K = some outs →
  ∀ B w β tmps, Inv gl B w β (lst st) → FrR N β env tmps → ∀ Q : Exit → Act → World → Prop, (∀ a w, RealE gl N B β st K outs a w → Q .normal a w) → wpList P ops Q l ⟨tmps.toArray, []⟩ w
 | [], _, s, hs, call, hc, env, st, K, outs, hok, h, B, w, β, tmps, hi, he, Q, hQ => by
  have : s = doneS := by cases hs; rfl
  subst this
  exact wpList_nil (hQ _ _ ⟨env, st, β, tmps, rfl, hi, he, .refl _, .refl hok, .of h⟩)
 | o :: l, hl, s, hs, call, hc, env, st, K, outs, hok, h, B, w, β, tmps, hi, he, Q, hQ => by
  obtain ⟨j, hj⟩ := hl o (by simp)
  have hdo : ∀ d, o.dst = some d → d < 512 ∧ d < N := fun d hh => hd j o d hj hh
  cases ha : compO P gl ops o with
  | mk a =>
  cases hb : compSeq P gl ops l with
  | mk b =>
  have hsab : (l = [] ∧ s = a) ∨ s = thenS a b := by
   unfold compSeq at hs
   rw [ha] at hs
   cases l with
   | nil => cases hs; exact .inl ⟨rfl, rfl⟩
   | cons x l => simp only [hb] at hs; cases hs; exact .inr rfl
  have h' : a call env st (fun env st => b call env st K) = some outs := by
   rcases hsab with ⟨rfl, rfl⟩ | rfl
   ·have : b = doneS := by cases hb; rfl
    subst this; exact h
   ·exact h
  obtain ⟨g1, g2⟩ := step_ok (N := N) hops ha call hc env st _ outs hok h' B w β tmps hi he
  have next : ∀ env' st' β' w' tmps', Good st st' → KO (fun env st => b call env st K) outs env' st' → Pre β β' → Inv gl B w' β' (lst st') → FrR N β' env' tmps' → wpList P ops Q l ⟨tmps'.toArray, []⟩ w' := by
   rintro env' st' β' w' tmps' k1 ⟨outs', k2, k3⟩ k4 k5 k6
   refine seq_ok hops hd l (fun o ho => hl o (by simp [ho])) b hb call hc env' st' K outs' k1.ok k2 B w' β' tmps' k5 k6 Q fun a w => ?_
   rintro ⟨e2, s2, b2, t2, m1, m2, m3, m4, m5, outs2, m6, m7⟩
   exact hQ _ _ ⟨e2, s2, b2, t2, m1, m2, m3, k4.trans m4, k1.trans m5, outs2, m6, fun d hd => k3 d (m7 d hd)⟩
  unfold wpList
  by_cases hw : Region.wanted o (yielded ops tmps.toArray) = true
  ·rw [if_pos hw]
   refine .inl (Oper.wp_mono ?_ (g1 hw Q))
   rintro a' w' ⟨v, x, st', β', rfl, ⟨k1, k2⟩, k3, k4, k5⟩
   rw [put_tmps]
   exact next _ _ _ _ _ k1 k2 k3 k5 ((he.mono k3).put hdo k4)
  ·rw [if_neg hw]
   rw [Bool.not_eq_true] at hw
   rw [put_tmps]
   exact next _ _ _ _ _ (.refl hok) (g2 hw) (.refl _) hi (he.put hdo (den_undef _))
end
end
end Go.Ev
