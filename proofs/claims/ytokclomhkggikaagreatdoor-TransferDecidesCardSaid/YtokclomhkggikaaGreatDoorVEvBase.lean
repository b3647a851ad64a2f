/-
 Frames, heaps and operands of the reckoner, and what an operation promises.
 The operations that yield a value and leave the heap alone: what the reckoner says of them is true.
 The reckoner's operations that yield a value are right.
-/
import Derived.Test.YtokclomhkggikaaGreatDoorVEvDefs
import Derived.Test.YtokclomhkggikaaGreatDoorVEvSem
namespace Go.Ev
open Go
noncomputable section
def lst (st : St) : List O := st.os.reverse
structure St.Ok (st : St) : Prop where
 len : st.n = st.os.length
 n0 : st.n0 ≤ st.n
 dl : ∀ i ∈ st.dl, i < st.n0
structure Good (st st' : St) : Prop where
 ok : st'.Ok
 n0 : st'.n0 = st.n0
 n : st.n ≤ st'.n
 dl : ∀ i ∈ st.dl, i ∈ st'.dl
 same : ∀ p, p < st.n0 → p ∉ st'.dl → (lst st')[p]? = (lst st)[p]?
theorem Good.refl {st : St} (h : st.Ok) : Good st st := ⟨h, rfl, Nat.le_refl _, fun _ h => h, fun _ _ _ => rfl⟩
theorem Good.trans {a b c : St} (h : Good a b) (k : Good b c) : Good a c :=
 ⟨k.ok, k.n0.trans h.n0, Nat.le_trans h.n k.n, fun i hi => k.dl i (h.dl i hi), fun p hp hn => (k.same p (h.n0 ▸ hp) hn).trans (h.same p hp fun hh => hn (k.dl p hh))⟩
theorem blt_iff {i n : Nat} : Nat.blt i n = true ↔ i < n := by simp [Nat.blt]; omega
theorem blt_false {i n : Nat} : Nat.blt i n = false ↔ ¬ i < n := by rw [← blt_iff, Bool.not_eq_true]
theorem lst_len {st : St} (h : st.Ok) : (lst st).length = st.n := by simp [lst, h.len]
theorem obj_eq {γ : Type} {st : St} (h : st.Ok) (i : Nat) (k : O → γ) : st.obj i k = k (((lst st)[i]?).getD .dead) := by
 unfold St.obj
 cases hb : Nat.blt i st.n with
 | true =>
  have hlt := blt_iff.1 hb
  simp only [nthK_eq]
  congr 2
  rw [lst, List.getElem?_reverse (by rw [← h.len]; exact hlt), h.len]
 | false =>
  have hlt := blt_false.1 hb
  have : (lst st)[i]? = none := by rw [List.getElem?_eq_none_iff, lst_len h]; omega
  rw [this]; rfl
def mk1 (n0 i : Nat) (dl : List Nat) : List Nat := if i < n0 then (if i ∈ dl then dl else i :: dl) else dl
theorem mark_eq {γ : Type} (n0 i : Nat) (dl : List Nat) (k : List Nat → γ) : mark n0 i dl k = k (mk1 n0 i dl) := by
 unfold mark mk1
 cases hb : Nat.blt i n0 with
 | true =>
  rw [if_pos (blt_iff.1 hb)]
  rw [memN_eq]
  by_cases hm : i ∈ dl
  ·have : dl.contains i = true := by simpa using hm
   rw [this, if_pos hm]
  ·have : dl.contains i = false := by simpa using hm
   rw [this, if_neg hm]
 | false => rw [if_neg (blt_false.1 hb)]
theorem mk1_sub {n0 i : Nat} {dl : List Nat} : ∀ j ∈ dl, j ∈ mk1 n0 i dl := fun j hj => by
 unfold mk1; split
 ·split
  ·exact hj
  ·exact List.mem_cons_of_mem _ hj
 ·exact hj
theorem mk1_mem {n0 i : Nat} {dl : List Nat} (h : i < n0) : i ∈ mk1 n0 i dl := by
 unfold mk1; rw [if_pos h]; split
 ·assumption
 ·simp
theorem mk1_lt {n0 i : Nat} {dl : List Nat} (h : ∀ j ∈ dl, j < n0) : ∀ j ∈ mk1 n0 i dl, j < n0 := fun j hj => by
 unfold mk1 at hj; split at hj
 ·split at hj
  ·exact h j hj
  ·rcases List.mem_cons.1 hj with e | e
   ·subst e; assumption
   ·exact h j e
 ·exact h j hj
def St.put (st : St) (i : Nat) (o : O) : St := ⟨st.n, st.n0, st.os.set (st.n - 1 - i) o, mk1 st.n0 i st.dl⟩
theorem set_eq {γ : Type} {st : St} {i : Nat} (hi : i < st.n) (o : O) (k : St → γ) : st.set i o k = k (st.put i o) := by
 unfold St.set
 rw [blt_iff.2 hi]
 simp only [setK_eq, mark_eq]
 rfl
theorem put_lst {st : St} (h : st.Ok) {i : Nat} (hi : i < st.n) (o : O) : lst (st.put i o) = (lst st).set i o := by
 unfold lst St.put
 simp only
 apply List.ext_getElem?
 intro j
 have hl := h.len
 rw [List.getElem?_set]
 by_cases hj : j < st.os.length
 ·rw [List.getElem?_reverse (by simpa using hj), List.length_set, List.getElem?_set]
  by_cases e : i = j
  ·subst e
   rw [if_pos (by omega), if_pos rfl, if_pos (by omega), if_pos (by simpa using hj)]
  ·rw [if_neg (by omega), if_neg e, List.getElem?_reverse hj]
 ·rw [List.getElem?_eq_none (by simpa using hj), if_neg (by omega), List.getElem?_eq_none (by simpa using hj)]
theorem put_good {st : St} (h : st.Ok) {i : Nat} (hi : i < st.n) (o : O) : Good st (st.put i o) := by
 refine ⟨⟨by simp [St.put, h.len], h.n0, mk1_lt h.dl⟩, rfl, Nat.le_refl _, mk1_sub, fun p hp hn => ?_⟩
 rw [put_lst h hi, List.getElem?_set, if_neg]
 rintro rfl
 exact hn (mk1_mem hp)
def St.add (st : St) (o : O) : St := ⟨st.n + 1, st.n0, o :: st.os, st.dl⟩
theorem push_eq {γ : Type} (st : St) (o : O) (k : St → γ) : st.push o k = k (st.add o) := rfl
theorem add_lst (st : St) (o : O) : lst (st.add o) = lst st ++ [o] := by simp [lst, St.add]
theorem add_ok {st : St} (h : st.Ok) (o : O) : (st.add o).Ok := ⟨by simp [St.add, h.len], Nat.le_succ_of_le h.n0, h.dl⟩
theorem add_good {st : St} (h : st.Ok) (o : O) : Good st (st.add o) := by
 refine ⟨add_ok h o, rfl, Nat.le_succ _, fun _ h => h, fun p hp _ => ?_⟩
 rw [add_lst, List.getElem?_append_left]
 rw [lst_len h]
 exact Nat.lt_of_lt_of_le hp h.n0
def E8.get {α : Type} (x : E8 α) (i : Nat) : α := match i with
 | 0 => x.a | 1 => x.b | 2 => x.c | 3 => x.d | 4 => x.e | 5 => x.f | 6 => x.g | _ => x.h
def E8.put {α : Type} (x : E8 α) (i : Nat) (y : α) : E8 α := match i with
 | 0 => { x with a := y } | 1 => { x with b := y } | 2 => { x with c := y } | 3 => { x with d := y } | 4 => { x with e := y } | 5 => { x with f := y } | 6 => { x with g := y } | _ => { x with h := y }
theorem E8.get_put {α : Type} (x : E8 α) {i j : Nat} (y : α) (hi : i < 8) (hj : j < 8) : (x.put i y).get j = if i = j then y else x.get j := by
 have h1 : i = 0 ∨ i = 1 ∨ i = 2 ∨ i = 3 ∨ i = 4 ∨ i = 5 ∨ i = 6 ∨ i = 7 := by omega
 have h2 : j = 0 ∨ j = 1 ∨ j = 2 ∨ j = 3 ∨ j = 4 ∨ j = 5 ∨ j = 6 ∨ j = 7 := by omega
 rcases h1 with rfl | rfl | rfl | rfl | rfl | rfl | rfl | rfl <;> rcases h2 with rfl | rfl | rfl | rfl | rfl | rfl | rfl | rfl <;> rfl
def getE (env : Env) (t : Nat) : V := ((env.get (t / 64)).get (t / 8 % 8)).get (t % 8)
def setE (env : Env) (t : Nat) (v : V) : Env := env.put (t / 64) ((env.get (t / 64)).put (t / 8 % 8) (((env.get (t / 64)).get (t / 8 % 8)).put (t % 8) v))
theorem getE_set (env : Env) {t u : Nat} (v : V) (ht : t < 512) (hu : u < 512) : getE (setE env t v) u = if t = u then v else getE env u := by
 unfold getE setE
 rw [E8.get_put _ _ (by omega) (by omega)]
 by_cases h1 : t / 64 = u / 64
 ·rw [if_pos h1, E8.get_put _ _ (by omega) (by omega)]
  by_cases h2 : t / 8 % 8 = u / 8 % 8
  ·rw [if_pos h2, E8.get_put _ _ (by omega) (by omega)]
   by_cases h3 : t % 8 = u % 8
   ·rw [if_pos h3, if_pos (by omega)]
   ·rw [if_neg h3, if_neg (by omega), h1, h2]
  ·rw [if_neg h2, if_neg (by intro e; subst e; exact h2 rfl), h1]
 ·rw [if_neg h1, if_neg (by intro e; subst e; exact h1 rfl)]
theorem selG_spec {α : Type} (i : Nat) : ∃ g : E8 α → (α → R) → R, (∀ x k, g x k = k (x.get i)) ∧ ∀ {γ : Type} (c : (E8 α → (α → R) → R) → γ), selG i c = c g := by
 match i with
 | 0 => exact ⟨g0, fun x k => by cases x; rfl, fun _ => rfl⟩
 | 1 => exact ⟨g1, fun x k => by cases x; rfl, fun _ => rfl⟩
 | 2 => exact ⟨g2, fun x k => by cases x; rfl, fun _ => rfl⟩
 | 3 => exact ⟨g3, fun x k => by cases x; rfl, fun _ => rfl⟩
 | 4 => exact ⟨g4, fun x k => by cases x; rfl, fun _ => rfl⟩
 | 5 => exact ⟨g5, fun x k => by cases x; rfl, fun _ => rfl⟩
 | 6 => exact ⟨g6, fun x k => by cases x; rfl, fun _ => rfl⟩
 | n + 7 => exact ⟨g7, fun x k => by cases x; rfl, fun _ => rfl⟩
theorem selU_spec {α : Type} (i : Nat) : ∃ u : E8 α → (α → (α → R) → R) → (E8 α → R) → R, (∀ x m k, u x m k = m (x.get i) fun y => k (x.put i y)) ∧ ∀ {γ : Type} (c : (E8 α → (α → (α → R) → R) → (E8 α → R) → R) → γ), selU i c = c u := by
 match i with
 | 0 => exact ⟨u0, fun x m k => by cases x; rfl, fun _ => rfl⟩
 | 1 => exact ⟨u1, fun x m k => by cases x; rfl, fun _ => rfl⟩
 | 2 => exact ⟨u2, fun x m k => by cases x; rfl, fun _ => rfl⟩
 | 3 => exact ⟨u3, fun x m k => by cases x; rfl, fun _ => rfl⟩
 | 4 => exact ⟨u4, fun x m k => by cases x; rfl, fun _ => rfl⟩
 | 5 => exact ⟨u5, fun x m k => by cases x; rfl, fun _ => rfl⟩
 | 6 => exact ⟨u6, fun x m k => by cases x; rfl, fun _ => rfl⟩
 | n + 7 => exact ⟨u7, fun x m k => by cases x; rfl, fun _ => rfl⟩
theorem getC_eq {t : Nat} (ht : t < 512) (env : Env) (k : V → R) : (getC t).v env k = k (getE env t) := by
 unfold getC
 rw [blt_iff.2 ht]
 obtain ⟨a, ha, ca⟩ := selG_spec (α := E8 (E8 V)) (t / 64)
 obtain ⟨b, hb, cb⟩ := selG_spec (α := E8 V) (t / 8 % 8)
 obtain ⟨c, hc, cc⟩ := selG_spec (α := V) (t % 8)
 simp only [ca, cb, cc, pathG, ha, hb, hc]
 rfl
theorem getC_fail {t : Nat} (ht : ¬ t < 512) (env : Env) (k : V → R) : (getC t).v env k = none := by
 unfold getC
 rw [blt_false.2 ht]; rfl
theorem putC_eq {t : Nat} (ht : t < 512) (env : Env) (v : V) (k : Env → R) : (putC t).v env v k = k (setE env t v) := by
 unfold putC
 rw [blt_iff.2 ht]
 obtain ⟨a, ha, ca⟩ := selU_spec (α := E8 (E8 V)) (t / 64)
 obtain ⟨b, hb, cb⟩ := selU_spec (α := E8 V) (t / 8 % 8)
 obtain ⟨c, hc, cc⟩ := selU_spec (α := V) (t % 8)
 simp only [ca, cb, cc, pathU, ha, hb, hc]
 rfl
theorem putC_fail {t : Nat} (ht : ¬ t < 512) (env : Env) (v : V) (k : Env → R) : (putC t).v env v k = none := by
 unfold putC
 rw [blt_false.2 ht]; rfl
def EnvRel (β : List Nat) (env : Env) (tmps : List Value) : Prop := ∀ t, t < 512 → Den β (getE env t) (tmps.getD t undef)
theorem EnvRel.mono {β β' : List Nat} {env : Env} {tmps : List Value} (h : EnvRel β env tmps) (hp : Pre β β') : EnvRel β' env tmps := fun t ht => (h t ht).mono hp
theorem EnvRel.set {β : List Nat} {env : Env} {tmps : List Value} (h : EnvRel β env tmps) {t : Nat} (ht : t < 512) (hl : t < tmps.length) {x : V} {v : Value} (hx : Den β x v) : EnvRel β (setE env t x) (tmps.set t v) := fun u hu => by
 rw [getE_set _ _ ht hu]
 by_cases e : t = u
 ·subst e
  rw [if_pos rfl]
  simpa [List.getD, hl] using hx
 ·rw [if_neg e]
  have := h u hu
  simpa [List.getD, List.getElem?_set, e] using this
def opG (x : Operand) : G := (opC x).v
theorem withO_eq {γ : Type} (x : Operand) (c : G → γ) : withO x c = c (opG x) := rfl
theorem withL_eq {γ : Type} (l : List Operand) (c : List G → γ) : withL l c = c (l.map opG) := mapK_eq opG (fun _ _ => rfl) l c
theorem withOpt_eq {γ : Type} (x : Option Operand) (c : Option G → γ) : withOpt x c = c (x.map opG) := by cases x <;> rfl
theorem opG_den {β : List Nat} {env : Env} {tmps : List Value} (he : EnvRel β env tmps) {x : Operand} {k : V → R} {outs : List Dl} (h : opG x env k = some outs) :
  ∃ p, Den β p ((⟨tmps.toArray, []⟩ : Act).eval x) ∧ k p = some outs := by
 cases x with
 | tmp t =>
  by_cases ht : t < 512
  ·have e : (⟨tmps.toArray, []⟩ : Act).eval (.tmp t) = tmps.getD t undef := by
    simp only [Act.eval, Array.getD, List.getD]
    by_cases hl : t < tmps.length <;> simp [hl]
   refine ⟨getE env t, ?_, ?_⟩
   ·rw [e]; exact he t ht
   ·rw [← h]; exact (getC_eq ht env k).symm
  ·exact absurd (h.symm.trans (getC_fail ht env k)) (by simp)
 | const v =>
  change (opC (.const v)).v env k = some outs at h
  simp only [opC] at h
  cases hc : constOk v with
  | false => rw [hc] at h; cases h
  | true =>
   rw [hc] at h
   simp only [fV_eq, constG] at h
   refine ⟨cvAgg v, ?_, h⟩
   show Den β (cvAgg v) v
   unfold cvAgg
   split
   ·rename_i cs
    have hd := denL_cv β cs.toList
    refine .agg _ cs.toList hd.1 (fun u hu => ?_) hd.2
    simp only [constOk, List.all_eq_true] at hc
    exact one_cv (hc u hu)
   ·exact den_cv ..
 | global g => exact ⟨.gptr g 0, .gptr .., h⟩
 | func f => exact ⟨.fn f [] [], .fn f [] [] [] [] rfl (fun j c v h => by simp at h) rfl (fun j c v h => by simp at h), h⟩
end
end Go.Ev
namespace Go.Ev
open Go
noncomputable section
def OpE (P : Program) (gl : List (Nat × List V)) (o : Oper) (env : Env) (st : St) (Kp : V → St → Prop) : Prop :=
 ∀ B w β tmps Q, Inv gl B w β (lst st) → EnvRel β env tmps → o.wp P ⟨tmps.toArray, []⟩ w (fun a' w' => ∃ v x st' β', a' = (⟨tmps.toArray, []⟩ : Act).put o.dst v ∧ Kp x st' ∧ Good st st' ∧ Den β' x v ∧ Inv gl B w' β' (lst st') ∧ Pre β β') Q
def KOk (K : KS) (outs : List Dl) (x : V) (st' : St) : Prop := ∃ outs', K x st' = some outs' ∧ ∀ d ∈ outs', d ∈ outs
theorem KOk.of {K : KS} {outs : List Dl} {x : V} {st : St} (h : K x st = some outs) : KOk K outs x st := ⟨outs, h, fun _ h => h⟩
theorem iff_some {b : Bool} {x : R} {o : List Dl} (h : iff b x none = some o) : b = true ∧ x = some o := by
 cases b
 ·cases h
 ·exact ⟨rfl, h⟩
section inv
variable {β : List Nat}
theorem Den.bool_inv {b : Bool} {v : Value} (h : Den β (.bool b) v) : v = .bool b := by cases h; rfl
theorem Den.int_inv {k : IntKind} {n : Int} {v : Value} (h : Den β (.int k n) v) : v = .int k n := by cases h; rfl
theorem Den.str_inv {s : List UInt8} {v : Value} (h : Den β (.str s) v) : v = .string ⟨s.toArray⟩ := by cases h; rfl
theorem Den.ptr_inv {i off : Nat} {v : Value} (h : Den β (.ptr i off) v) : ∃ b, β[i]? = some b ∧ v = .pointer (some ⟨b, off, none⟩) := by
 cases h with | ptr _ _ b hb => exact ⟨b, hb, rfl⟩
theorem Den.gptr_inv {g off : Nat} {v : Value} (h : Den β (.gptr g off) v) : v = .pointer (some ⟨g, off, none⟩) := by cases h; rfl
theorem Den.agg_inv {cs : List V} {v : Value} (h : Den β (.agg cs) v) : ∃ vs : List Value, v = .agg vs.toArray ∧ DenL β cs vs ∧ ∀ u ∈ vs, u.oneCell' = true := by
 cases h with | agg _ vs hl h1 hd => exact ⟨vs, rfl, ⟨hl, hd⟩, h1⟩
theorem Den.tup_inv {cs : List V} {v : Value} (h : Den β (.tup cs) v) : ∃ vs : List Value, v = .tuple vs.toArray ∧ DenL β cs vs := by
 cases h with | tup _ vs hl hd => exact ⟨vs, rfl, hl, hd⟩
theorem Den.fn_inv {f : FuncId} {as bs : List V} {v : Value} (h : Den β (.fn f as bs) v) : ∃ vs us : List Value, v = .func (.func f) vs.toArray us.toArray ∧ DenL β as vs ∧ DenL β bs us := by
 cases h with | fn _ _ _ vs us h1 h2 h3 h4 => exact ⟨vs, us, rfl, ⟨h1, h2⟩, ⟨h3, h4⟩⟩
theorem Den.sl_inv {k i off len : Nat} {cap : Cap} {v : Value} (h : Den β (.sl k i off len cap) v) : ∃ b c, β[i]? = some b ∧ capIs β off cap c ∧ len ≤ c ∧ v = .slice (some ⟨b, off * k, none⟩) len c := by
 cases h with | sl _ _ _ _ _ b c h1 h2 h3 => exact ⟨b, c, h1, h2, h3, rfl⟩
theorem DenL.fn {f : FuncId} {as bs : List V} {vs us : List Value} (h : DenL β as vs) (k : DenL β bs us) : Den β (.fn f as bs) (.func (.func f) vs.toArray us.toArray) := .fn _ _ _ _ _ h.1 h.2 k.1 k.2
theorem DenL.agg {cs : List V} {vs : List Value} (h : DenL β cs vs) (h1 : ∀ u ∈ vs, u.oneCell' = true) : Den β (.agg cs) (.agg vs.toArray) := .agg _ _ h.1 h1 h.2
theorem DenL.tup {cs : List V} {vs : List Value} (h : DenL β cs vs) : Den β (.tup cs) (.tuple vs.toArray) := .tup _ _ h.1 h.2
end inv
theorem addr_add (b off n : Nat) : (⟨b, off, none⟩ : Addr).add n = ⟨b, off + n, none⟩ := by
 unfold Addr.add; split <;> simp_all
section
variable {P : Program} {gl : List (Nat × List V)} {o : Oper} {env : Env} {st : St} {K : KS} {outs : List Dl} {β : List Nat} {w : World}
theorem op_val {Kp : V → St → Prop} (hok : st.Ok) (h : ∀ (B : Base) w β tmps, Inv gl B w β (lst st) → EnvRel β env tmps →
  ∃ x v, (execOp (⟨tmps.toArray, []⟩ : Act).eval o).run P w = .ok (.value v) w ∧ Den β x v ∧ Kp x st) : OpE P gl o env st Kp := fun B w β tmps Q hi he => by
 obtain ⟨x, v, hr, hd, hK⟩ := h B w β tmps hi he
 unfold Oper.wp
 rw [hr]
 exact ⟨v, x, st, β, rfl, hK, .refl hok, hd, hi, .refl _⟩
theorem tyOf_spec {P : Program} {t : TypeId} {ti : TI} (h : tyOf P t = some ti) :
  ∃ i d, P.info? t = some i ∧ P.underlying t = some d ∧ ti.tk = tkOf P d ∧ ti.size = i.size ∧ ti.bytes = i.bytes ∧ ti.zero = zeroOf i.zero := by
 unfold tyOf at h
 split at h
 ·rename_i i d h1 h2
  cases h
  exact ⟨i, d, h1, h2, rfl, rfl, rfl, rfl⟩
 ·cases h
theorem tkT_spec {P : Program} {t : TypeId} {tk : TK} (h : tkT P t = some tk) : ∃ i d, P.info? t = some i ∧ P.underlying t = some d ∧ tk = tkOf P d := by
 unfold tkT at h
 split at h
 ·rename_i ti ht
  cases h
  obtain ⟨i, d, h1, h2, h3, _⟩ := tyOf_spec ht
  exact ⟨i, d, h1, h2, h3⟩
 ·cases h
theorem zeroT_spec {P : Program} {t : TypeId} {z : List V} (h : zeroT P t = some z) : ∃ i zv, P.info? t = some i ∧ i.zero = some zv ∧ z = zv.cells.toList.map cv := by
 unfold zeroT at h
 split at h
 ·rename_i ti ht
  obtain ⟨i, d, h1, h2, h3, h4, h5, h6⟩ := tyOf_spec ht
  rw [h6] at h
  cases hz : i.zero with
  | none => rw [hz] at h; cases h
  | some zv => rw [hz] at h; cases h; exact ⟨i, zv, h1, hz, rfl⟩
 ·cases h
theorem fldsOf_get {P : Program} : ∀ {fs : List Field} {l : List (Nat × Nat × Bool × TypeId)}, fldsOf P fs = some l → ∀ (f : Nat) x, l[f]? = some x → ∃ fd, fs[f]? = some fd ∧ fldOf P fd = some x
 | [], l, h, f, x, hx => by simp [fldsOf] at h; subst h; simp at hx
 | fd :: fs, l, h, f, x, hx => by
  simp only [fldsOf] at h
  split at h
  ·rename_i y ys h1 h2
   cases h
   cases f with
   | zero => simp at hx; subst hx; exact ⟨fd, rfl, h1⟩
   | succ f => simp at hx; simpa using fldsOf_get h2 f x hx
  ·cases h
theorem fldOf_spec {P : Program} {fd : Field} {x : Nat × Nat × Bool × TypeId} (h : fldOf P fd = some x) : ∃ s d, szOf P fd.type = some s ∧ P.underlying fd.type = some d ∧ x = (fd.offset, s, aggD d, fd.type) := by
 unfold fldOf at h
 split at h
 ·rename_i s d h1 h2; cases h; exact ⟨s, d, h1, h2, rfl⟩
 ·cases h
theorem run_info {t : TypeId} {i : TypeInfo} (h : P.info? t = some i) (w : World) : (typeInfo t).run P w = .ok i w := by
 simp [typeInfo, h]
theorem run_size {t : TypeId} {s : Nat} (h : szOf P t = some s) (w : World) : (sizeOf t).run P w = .ok s w := by
 unfold szOf at h
 cases hi : P.info? t with
 | none => simp [hi] at h
 | some i => simp [hi] at h; subst h; simp [sizeOf, run_info hi]
theorem run_zero {t : TypeId} {i : TypeInfo} {zv : Value} (h : P.info? t = some i) (hz : i.zero = some zv) (w : World) : (zeroValue t).run P w = .ok zv w := by
 simp [zeroValue, run_info h, hz]
theorem run_aggD {t : TypeId} {d : TypeDesc} (h : P.underlying t = some d) (w : World) : (isAgg t).run P w = .ok (aggD d) w := by
 simp only [isAgg, Sem.run_bind, run_underlying h, Result.andThen_ok]
 cases d <;> rfl
theorem tkOf_strct {d : TypeDesc} {l : List (Nat × Nat × Bool × TypeId)} (h : TK.strct l = tkOf P d) : ∃ fs, d = .struct fs ∧ fldsOf P fs.toList = some l := by
 cases d <;> simp only [tkOf] at h <;> first | (cases h; done) | skip
 case struct fs =>
  refine ⟨fs, rfl, ?_⟩
  split at h
  ·cases h; assumption
  ·cases h
 all_goals (split at h <;> cases h)
theorem tkOf_arr {d : TypeDesc} {n e s : Nat} (h : TK.arr n e s = tkOf P d) : d = .array n e ∧ szOf P e = some s := by
 cases d <;> simp only [tkOf] at h <;> first | (cases h; done) | skip
 case array n' e' =>
  split at h
  ·cases h; exact ⟨rfl, by assumption⟩
  ·cases h
 all_goals (split at h <;> cases h)
theorem tkOf_sl {d : TypeDesc} {e s by_ : Nat} (h : TK.sl e s by_ = tkOf P d) : d = .slice e ∧ ∃ i, P.info? e = some i ∧ i.size = s ∧ i.bytes = by_ := by
 cases d <;> simp only [tkOf] at h <;> first | (cases h; done) | skip
 case slice e' =>
  split at h
  ·cases h; exact ⟨rfl, _, by assumption, rfl, rfl⟩
  ·cases h
 all_goals (split at h <;> cases h)
theorem tkOf_str {d : TypeDesc} (h : TK.str = tkOf P d) : d = .string := by
 cases d <;> simp only [tkOf] at h <;> first | (cases h; done) | rfl | skip
 all_goals (split at h <;> cases h)
theorem tkOf_bool {d : TypeDesc} (h : TK.bool = tkOf P d) : d = .bool := by
 cases d <;> simp only [tkOf] at h <;> first | (cases h; done) | rfl | skip
 all_goals (split at h <;> cases h)
theorem tkOf_int {d : TypeDesc} {k : IntKind} (h : TK.int k = tkOf P d) : d = .int k := by
 cases d <;> simp only [tkOf] at h <;> first | (cases h; rfl) | (cases h; done) | skip
 all_goals (split at h <;> cases h)
theorem tkOf_ptr {d : TypeDesc} {e : Nat} (h : TK.ptr e = tkOf P d) : d = .pointer e := by
 cases d <;> simp only [tkOf] at h <;> first | (cases h; rfl) | (cases h; done) | skip
 all_goals (split at h <;> cases h)
theorem tkOf_agg {d : TypeDesc} {k : TK} (h : k = tkOf P d) (ho : k.known = true) : k.agg = aggD d := by
 subst h
 cases d <;> simp only [tkOf] at ho ⊢ <;> first | rfl | skip
 all_goals (split <;> first | rfl | (rename_i h; simp [h, TK.known] at ho))
def PartR (ag : Bool) (cs : List V) (off n : Nat) (x : V) : Prop := (ag = true ∧ off + n ≤ cs.length ∧ x = .agg ((cs.drop off).take n)) ∨ (ag = false ∧ cs[off]? = some x)
theorem partK_spec {ag : Bool} {cs : List V} {off n : Nat} {k : V → R} (h : partK ag cs off n k = some outs) : ∃ x, (PartR ag cs off n x ∨ n = 0 ∧ ag = true ∧ x = .agg []) ∧ k x = some outs := by
 unfold partK at h
 cases ag with
 | true =>
  simp only [iff, dropK_eq, takeK_eq] at h
  obtain ⟨h1, h2⟩ := iff_some h
  have hl := Nat.eq_of_beq_eq_true h1
  simp at hl
  by_cases hn : n = 0
  ·subst hn; exact ⟨_, .inr ⟨rfl, rfl, rfl⟩, by simpa using h2⟩
  ·exact ⟨_, .inl (.inl ⟨rfl, by omega, rfl⟩), h2⟩
 | false =>
  simp only [iff, nthF_eq] at h
  cases hx : cs[off]? with
  | none => rw [hx] at h; cases h
  | some x => rw [hx] at h; exact ⟨x, .inl (.inr ⟨rfl, hx⟩), h⟩
end
end
end Go.Ev
namespace Go.Ev
open Go
noncomputable section
def SemOk (P : Program) (gl : List (Nat × List V)) (CO : Call → Prop) (op : Op) (s : Sm) : Prop :=
 ∀ (o : Oper), o.op = op → ∀ (call : Call), CO call → ∀ env st K outs, st.Ok → s call env st K = some outs → OpE P gl o env st (KOk K outs)
def ValOk (P : Program) (gl : List (Nat × List V)) (CO : Call → Prop) (op : Op) (s : Sm) : Prop :=
 ∀ (o : Oper), o.op = op → ∀ (call : Call), CO call → ∀ env st K outs, st.Ok → s call env st K = some outs → ∀ (B : Base) w β tmps, Inv gl B w β (lst st) → EnvRel β env tmps →
  ∃ x v, (execOp (⟨tmps.toArray, []⟩ : Act).eval o).run P w = .ok (.value v) w ∧ Den β x v ∧ KOk K outs x st
theorem ValOk.sem {P : Program} {gl : List (Nat × List V)} {CO : Call → Prop} {op : Op} {s : Sm} (h : ValOk P gl CO op s) : SemOk P gl CO op s :=
 fun o ho call hc env st K outs hok hs => op_val hok (h o ho call hc env st K outs hok hs)
section
variable {P : Program} {gl : List (Nat × List V)} {CO : Call → Prop} {β : List Nat} {w : World}
theorem part_cases {ag : Bool} {cs : List V} {off s : Nat} {x : V} (h : PartR ag cs off s x ∨ s = 0 ∧ ag = true ∧ x = .agg []) :
  (ag = true ∧ x = .agg ((cs.drop off).take s) ∧ (off + s ≤ cs.length ∨ s = 0)) ∨ (ag = false ∧ cs[off]? = some x) := by
 rcases h with (⟨hag, hle, rfl⟩ | ⟨hag, hx⟩) | ⟨h0, hag, rfl⟩
 ·exact .inl ⟨hag, rfl, .inl hle⟩
 ·exact .inr ⟨hag, hx⟩
 ·exact .inl ⟨hag, by rw [h0]; simp, .inr h0⟩
theorem run_part {cs : List V} {vs : List Value} (hl : DenL β cs vs) (h1 : ∀ u ∈ vs, u.oneCell' = true) {t : TypeId} {d : TypeDesc} {s : Nat} (hu : P.underlying t = some d) (hs : szOf P t = some s) {off : Nat} {x : V}
  (h : PartR (aggD d) cs off s x ∨ s = 0 ∧ aggD d = true ∧ x = .agg []) :
  ∃ v, (Go.part t vs.toArray off).run P w = .ok v w ∧ Den β x v := by
 simp only [Go.part, Sem.run_bind, run_aggD hu, Result.andThen_ok]
 rcases part_cases h with ⟨hag, rfl, _⟩ | ⟨hag, hx⟩
 ·rw [hag]
  simp only [if_true, Sem.run_bind, run_size hs, Result.andThen_ok, Sem.run_pure]
  refine ⟨_, rfl, ?_⟩
  rw [List.extract_toArray, List.extract_eq_drop_take']
  have e : (vs.take (off + s)).drop off = (vs.drop off).take s := by rw [List.drop_take]; congr 1; omega
  rw [e]
  exact ((hl.drop off).take s).agg fun u hu => h1 u (List.mem_of_mem_drop (List.mem_of_mem_take hu))
 ·rw [hag]
  simp only [Bool.false_eq_true, if_false]
  have hlt : off < vs.length := by rw [← hl.1]; exact (List.getElem?_eq_some_iff.1 hx).1
  exact ⟨vs[off], by simp [hlt], hl.2 off x _ hx (List.getElem?_eq_getElem hlt)⟩
theorem run_loadVar {cs : List V} {vs : List Value} {b : Nat} {T : TypeId} {fr : Nat × Nat} (hb : w.heap[b]? = some (.cells vs.toArray T fr)) (hl : cs.length ≤ vs.length) (hd : DenL β cs (vs.take cs.length)) (h1 : ∀ u ∈ vs.take cs.length, u.oneCell' = true)
  {t : TypeId} {d : TypeDesc} {s : Nat} (hu : P.underlying t = some d) (hs : szOf P t = some s) {off : Nat} {x : V} (h : PartR (aggD d) cs off s x ∨ s = 0 ∧ aggD d = true ∧ x = .agg []) :
  ∃ v, (loadVar t ⟨b, off, none⟩).run P w = .ok v w ∧ Den β x v := by
 have hc : ∀ j, w.cell? ⟨b, j, none⟩ = vs[j]? := fun j => by simp [World.cell?, hb]
 simp only [loadVar, Sem.run_bind, run_aggD hu, Result.andThen_ok]
 rcases part_cases h with ⟨hag, rfl, hle⟩ | ⟨hag, hx⟩
 ·rw [hag]
  have hld := run_loadCells (P := P) w ⟨b, off, none⟩ s (fun j => (vs.drop off).getD j undef) (fun j hj => by
   have hlt : off + j < vs.length := by omega
   rw [addr_add, hc]
   simp [List.getD, List.getElem?_drop, hlt])
  simp only [if_true, Sem.run_bind, run_size hs, Result.andThen_ok, Sem.run_pure, hld]
  refine ⟨_, rfl, ?_⟩
  have e : (List.range s).map (fun j => (vs.drop off).getD j undef) = (vs.drop off).take s := by
   apply List.ext_getElem?
   intro j
   rw [List.getElem?_map, List.getElem?_take]
   by_cases hj : j < s
   ·have hlt : off + j < vs.length := by omega
    rw [List.getElem?_range hj, if_pos hj]
    simp [List.getD, List.getElem?_drop, hlt]
   ·rw [List.getElem?_eq_none (by simp; omega), if_neg hj]; rfl
  rw [e]
  have e2 : (vs.drop off).take s = ((vs.take cs.length).drop off).take s := by
   rcases hle with hle | hle
   ·rw [List.drop_take, List.take_take]; congr 1; omega
   ·rw [hle]; simp
  rw [e2]
  exact ((hd.drop off).take s).agg fun u hu => h1 u (List.mem_of_mem_drop (List.mem_of_mem_take hu))
 ·rw [hag]
  simp only [Bool.false_eq_true, if_false]
  have hlt : off < cs.length := (List.getElem?_eq_some_iff.1 hx).1
  have hv : vs[off]? = some vs[off] := List.getElem?_eq_getElem (by omega)
  refine ⟨vs[off], ?_, hd.2 off x _ hx (by rw [List.getElem?_take, if_pos hlt]; exact hv)⟩
  rw [run_load, hc, hv]
theorem ok_move {x : Operand} {op : Op} (hop : op = .move x ∨ op = .assign x) : ValOk P gl CO op (sMove (opG x)) := fun o ho call hc env st K outs hok h => fun B w β tmps hi he => by
 obtain ⟨p, hd, hk⟩ := opG_den he h
 exact ⟨p, _, by rcases hop with rfl | rfl <;> simp [execOp, ho], hd, .of hk⟩
theorem vBool_some {v : V} {k : Bool → R} {outs : List Dl} (h : vBool v k = some outs) : ∃ b, v = .bool b ∧ k b = some outs := by
 cases v <;> first | cases h | exact ⟨_, rfl, h⟩
theorem vInt_some {v : V} {k : IntKind → Int → R} {outs : List Dl} (h : vInt v k = some outs) : ∃ kd n, v = .int kd n ∧ k kd n = some outs := by
 cases v <;> first | cases h | exact ⟨_, _, rfl, h⟩
theorem vNat_some {v : V} {k : Nat → R} {outs : List Dl} (h : vNat v k = some outs) : ∃ kd n, v = .int kd (.ofNat n) ∧ k n = some outs := by
 cases v <;> first | cases h | skip
 rename_i kd n
 cases n with
 | ofNat n => exact ⟨_, _, rfl, h⟩
 | negSucc n => cases h
theorem vAgg_some {v : V} {k : List V → R} {outs : List Dl} (h : vAgg v k = some outs) : ∃ cs, v = .agg cs ∧ k cs = some outs := by
 cases v <;> first | cases h | exact ⟨_, rfl, h⟩
theorem ok_pick {c a b : Operand} : ValOk P gl CO (.pick c a b) (sPick (opG c) (opG a) (opG b)) := fun o ho call hc env st K outs hok h => fun B w β tmps hi he => by
 obtain ⟨p, hd, h⟩ := opG_den he h
 obtain ⟨t, rfl, h⟩ := vBool_some h
 have hv := hd.bool_inv
 cases t with
 | true =>
  obtain ⟨q, hq, h⟩ := opG_den he h
  exact ⟨q, _, by simp [execOp, ho, hv, Go.asBool], hq, .of h⟩
 | false =>
  obtain ⟨q, hq, h⟩ := opG_den he h
  exact ⟨q, _, by simp [execOp, ho, hv, Go.asBool], hq, .of h⟩
theorem ok_nil {x : Operand} : ValOk P gl CO (.nilCheck x) (sNil (opG x)) := fun o ho call hc env st K outs hok h => fun B w β tmps hi he => by
 obtain ⟨p, hd, h⟩ := opG_den he h
 cases p <;> first | (cases h; done) | skip
 case ptr i off => obtain ⟨b, hb, hv⟩ := hd.ptr_inv; exact ⟨_, _, by simp only [execOp, ho, hv, Sem.run_pure], .ptr _ _ _ hb, .of h⟩
 case gptr g off => have hv := hd.gptr_inv; exact ⟨_, _, by simp only [execOp, ho, hv, Sem.run_pure], .gptr .., .of h⟩
 case fn f as bs => obtain ⟨vs, us, hv, h1, h2⟩ := hd.fn_inv; exact ⟨_, _, by simp only [execOp, ho, hv, Sem.run_pure], h1.fn h2, .of h⟩
theorem ok_fAddr {t : TypeId} {x : Operand} {f : Nat} {l : List (Nat × Nat × Bool × TypeId)} {q : Nat × Nat × Bool × TypeId} (ht : tkT P t = some (.strct l)) (hf : l[f]? = some q) (h0 : Nat.beq q.2.1 0 = false) :
  ValOk P gl CO (.fieldAddr t x f) (sFAddr q.1 (opG x)) := fun o ho call hc env st K outs hok h => fun B w β tmps hi he => by
 obtain ⟨i, d, hi1, hu, htk⟩ := tkT_spec ht
 obtain ⟨fs, rfl, hfs⟩ := tkOf_strct htk
 obtain ⟨fd, hfd, hfo⟩ := fldsOf_get hfs _ _ hf
 obtain ⟨s, d', hs, hd', rfl⟩ := fldOf_spec hfo
 have hfd' : fs[f]? = some fd := by simpa using hfd
 have hs0 : ¬ s = 0 := Nat.ne_of_beq_eq_false h0
 obtain ⟨p, hd, h⟩ := opG_den he h
 have key : ∀ a0 : Addr, (⟨tmps.toArray, []⟩ : Act).eval x = .pointer (some a0) → (execOp (⟨tmps.toArray, []⟩ : Act).eval o).run P w = .ok (.value (.pointer (some (a0.add fd.offset)))) w := by
  intro a0 h0
  simp only [execOp, ho, Instr.fieldAt, Sem.run_bind, run_underlying hu, Result.andThen_ok, hfd', h0, Instr.sureAddr, Sem.run_pure, fieldPlace, run_size hs, if_neg hs0]
 cases p <;> first | (cases h; done) | skip
 case ptr i off => obtain ⟨b, hb, hv⟩ := hd.ptr_inv; exact ⟨_, _, key _ hv, by rw [addr_add]; exact .ptr _ _ _ hb, .of h⟩
 case gptr g off => exact ⟨_, _, key _ hd.gptr_inv, by rw [addr_add]; exact .gptr .., .of h⟩
theorem ok_field {t : TypeId} {x : Operand} {f : Nat} {l : List (Nat × Nat × Bool × TypeId)} {q : Nat × Nat × Bool × TypeId} (ht : tkT P t = some (.strct l)) (hf : l[f]? = some q) :
  ValOk P gl CO (.field t x f) (sField q.2.2.1 q.1 q.2.1 (opG x)) := fun o ho call hc env st K outs hok h => fun B w β tmps hi he => by
 obtain ⟨i, d, hi1, hu, htk⟩ := tkT_spec ht
 obtain ⟨fs, rfl, hfs⟩ := tkOf_strct htk
 obtain ⟨fd, hfd, hfo⟩ := fldsOf_get hfs _ _ hf
 obtain ⟨s, d', hs, hd', rfl⟩ := fldOf_spec hfo
 have hfd' : fs[f]? = some fd := by simpa using hfd
 obtain ⟨p, hd, h⟩ := opG_den he h
 obtain ⟨cs, rfl, h⟩ := vAgg_some h
 obtain ⟨y, hy, h⟩ := partK_spec h
 obtain ⟨vs, hv, hl, h1⟩ := hd.agg_inv
 obtain ⟨v, hr, hx⟩ := run_part (P := P) (w := w) hl h1 hd' hs hy
 exact ⟨y, v, by simp only [execOp, ho, Instr.field, Sem.run_bind, run_underlying hu, Result.andThen_ok, hfd', hv, Go.asAgg, Sem.run_pure]; erw [hr]; rfl, hx, .of h⟩
theorem cellsK_some {ob : O} {k : List V → R} {outs : List Dl} (h : cellsK ob k = some outs) : ∃ cs, (ob = .box cs ∨ ∃ kk ci, ob = .vec kk ci cs) ∧ k cs = some outs := by
 cases ob <;> first | (cases h; done) | skip
 case box cs => exact ⟨cs, .inl rfl, h⟩
 case vec kk ci cs => exact ⟨cs, .inr ⟨_, _, rfl⟩, h⟩
theorem obj_some {st : St} (hok : st.Ok) {i : Nat} {k : O → R} {outs : List Dl} (h : st.obj i k = some outs) : ∃ ob, k ob = some outs ∧ (ob = .dead ∨ (lst st)[i]? = some ob) := by
 rw [obj_eq hok] at h
 cases hx : (lst st)[i]? with
 | none => rw [hx] at h; exact ⟨_, h, .inl rfl⟩
 | some o => rw [hx] at h; exact ⟨o, h, .inr rfl⟩
theorem row_of {B : Base} {st : List O} (hi : Inv gl B w β st) {i b : Nat} (hb : β[i]? = some b) {ob : O} (ho : st[i]? = some ob) {cs : List V} (hc : ob = .box cs ∨ ∃ kk ci, ob = .vec kk ci cs) :
  ∃ (vs : List Value) (T : TypeId) (fr : Nat × Nat), w.heap[b]? = some (.cells vs.toArray T fr) ∧ cs.length ≤ vs.length ∧ DenL β cs (vs.take cs.length) ∧ (∀ u ∈ vs.take cs.length, u.oneCell' = true) ∧ (∀ j, j < vs.length → ¬ (fr.1 ≤ j ∧ j < fr.2)) := by
 have := hi.obj i b ob hb ho
 rcases hc with rfl | ⟨kk, ci, rfl⟩
 ·obtain ⟨vs, T, fr, h1, h2, h3, h4⟩ := this
  exact ⟨vs, T, fr, h1, by rw [h2.1]; exact Nat.le_refl _, by rw [h2.1, List.take_length]; exact h2, fun u hu => h3 u (List.mem_of_mem_take hu), h4⟩
 ·obtain ⟨c, vs, T, fr, h0, h1, h2, h3, h4, h5, h6⟩ := this
  exact ⟨vs, T, fr, h1, h3, h4, h5, h6⟩
theorem ok_load {t : TypeId} {x : Operand} {ti : TI} (ht : tyOf P t = some ti) (hk : ti.tk.known = true) : ValOk P gl CO (.load t x) (sLoad gl ti.tk.agg ti.size (opG x)) := fun o ho call hc env st K outs hok h => fun B w β tmps hi he => by
 obtain ⟨i, d, hi1, hu, htk, hsz, _⟩ := tyOf_spec ht
 have hag := tkOf_agg htk hk
 have hs : szOf P t = some ti.size := by simp [szOf, hi1, hsz]
 rw [hag] at h
 obtain ⟨p, hd, h⟩ := opG_den he h
 cases p <;> first | (cases h; done) | skip
 case ptr i off =>
  obtain ⟨b, hb, hv⟩ := hd.ptr_inv
  obtain ⟨ob, h, hob⟩ := obj_some hok h
  obtain ⟨cs, hcs, h⟩ := cellsK_some h
  obtain ⟨y, hy, h⟩ := partK_spec h
  have hob' : (lst st)[i]? = some ob := by
   rcases hob with rfl | hob
   ·rcases hcs with hcs | ⟨_, _, hcs⟩ <;> cases hcs
   ·exact hob
  obtain ⟨vs, T, fr, g1, g2, g3, g4, g5⟩ := row_of hi hb hob' hcs
  obtain ⟨v, hr, hx⟩ := run_loadVar (P := P) g1 g2 g3 g4 hu hs hy
  exact ⟨y, v, by simp only [execOp, ho, Instr.loadAt, Sem.run_bind, hv, Instr.sureAddr, Sem.run_pure, Result.andThen_ok, hr], hx, .of h⟩
 case gptr g off =>
  have hv := hd.gptr_inv
  change (match gl.lookup g with | some cs => partK (aggD d) cs off ti.size fun v => K v st | none => none) = some outs at h
  cases hg : gl.lookup g with
  | none => rw [hg] at h; cases h
  | some cs =>
   rw [hg] at h
   obtain ⟨y, hy, h⟩ := partK_spec h
   obtain ⟨hno, vs, T, fr, g1, g0, g2, g3⟩ := hi.glob g cs hg
   have hlt : g < B.w.heap.size := heap_lt g1
   obtain ⟨v, hr, hx⟩ := run_loadVar (P := P) (w := w) (b := g) (by rw [hi.keep g hno]; exact g1) g0 g2 g3 hu hs hy
   exact ⟨y, v, by simp only [execOp, ho, Instr.loadAt, Sem.run_bind, hv, Instr.sureAddr, Sem.run_pure, Result.andThen_ok, hr], hx.mono (Pre.nil _), .of h⟩
theorem ok_extract {x : Operand} {i : Nat} : ValOk P gl CO (.extract x i) (sExtract (opG x) i) := fun o ho call hc env st K outs hok h => fun B w β tmps hi he => by
 obtain ⟨p, hd, h⟩ := opG_den he h
 cases p <;> first | (cases h; done) | skip
 case tup vs =>
  obtain ⟨us, hv, hl⟩ := hd.tup_inv
  simp only [nthF_eq] at h
  cases hx : vs[i]? with
  | none => rw [hx] at h; cases h
  | some y =>
   rw [hx] at h
   have hlt : i < us.length := by rw [← hl.1]; exact (List.getElem?_eq_some_iff.1 hx).1
   exact ⟨y, us[i], by simp [execOp, ho, Instr.extract, hv, hlt], hl.2 i y _ hx (List.getElem?_eq_getElem hlt), .of h⟩
theorem ok_iface {t : TypeId} {x : Operand} {ti : TI} (ht : tyOf P t = some ti) (hcn : ti.tk.conc = true) : ValOk P gl CO (.makeInterface t x) (sIface t (opG x)) := fun o ho call hc env st K outs hok h => fun B w β tmps hi he => by
 obtain ⟨i, d, hi1, hu, htk, _⟩ := tyOf_spec ht
 obtain ⟨p, hd, h⟩ := opG_den he h
 refine ⟨_, _, ?_, .iface _ _ _ hd, .of h⟩
 simp only [execOp, ho, Instr.makeInterface, Sem.run_bind, run_underlying hu, Result.andThen_ok]
 cases d <;> first | rfl | (rw [htk] at hcn; simp [tkOf, TK.conc] at hcn)
theorem opsK_den {env : Env} {tmps : List Value} (he : EnvRel β env tmps) : ∀ {l : List Operand} {k : List V → R} {outs : List Dl}, opsK (l.map opG) env k = some outs → ∃ ps, DenL β ps (l.map (⟨tmps.toArray, []⟩ : Act).eval) ∧ k ps = some outs
 | [], k, outs, h => ⟨[], .nil, h⟩
 | x :: l, k, outs, h => by
  change opG x env (fun v => opsK (l.map opG) env fun vs => k (v :: vs)) = some outs at h
  obtain ⟨p, hd, h⟩ := opG_den he h
  obtain ⟨ps, hl, h⟩ := opsK_den he (l := l) h
  exact ⟨p :: ps, hl.cons hd, h⟩
theorem ok_mkfn {f : FuncId} {first caps : Array Operand} : ValOk P gl CO (.makeFunc (.func f) first caps) (sMkfn f (first.toList.map opG) (caps.toList.map opG)) := fun o ho call hc env st K outs hok h => fun B w β tmps hi he => by
 obtain ⟨as, ha, h⟩ := opsK_den he h
 obtain ⟨bs, hb, h⟩ := opsK_den he h
 have e : ∀ l : Array Operand, l.map (⟨tmps.toArray, []⟩ : Act).eval = (l.toList.map (⟨tmps.toArray, []⟩ : Act).eval).toArray := fun l => Array.ext' (by simp)
 refine ⟨_, _, ?_, ha.fn hb, .of h⟩
 simp only [execOp, ho, Instr.makeFunc, Sem.run_bind, Sem.run_pure, Result.andThen_ok, e]
end
end
end Go.Ev
