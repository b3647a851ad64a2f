/-
 Appends of which it is not known whether they add anything.
 Strings of bytes: the conversion of a slice of bytes to a string.
 Appending a string to bytes of the function's own; arrays of a fixed length as rows of elements.
 An array whose elements refer to other arrays of the function's own: kept as a box, and back.
 An append whose result is given up for a row at once.
 Drawn regions of which an operation may come up beside several others, one after another: a tree of orders.
 '==' of Booleans.
 '!=' of Booleans.
 make([]T, n): an array of the function's own with n zero elements.
 A place that stands free holds an array of no elements; what is said of frame and store, said with less.
-/
import Derived.Test.YtokclomhkggikaaGreatDoorJPwShort
import Derived.Laws.BytesString
import Derived.Lib.ConvBytes
import Derived.Test.YtokclomhkggikaaGreatDoorJPwAuto
import Derived.Test.YtokclomhkggikaaGreatDoorJPwFrz
import Derived.Test.YtokclomhkggikaaGreatDoorJPwDraw
import Derived.Room.Entries
import Derived.Test.YtokclomhkggikaaGreatDoorJPwArr
import Derived.Test.YtokclomhkggikaaGreatDoorJPwCall
namespace Go.Pw
open Go
section
variable {P : Program} {Gl : Glob} {B : Base} {tys : List TI} {env : List PV} {st : List PObj} {ops : Array Oper} {rest : List Oper} {o : Oper} {Q : Post} {A : Nat → Prop} {w : World} {β : List Nat}
theorem Inv.ghost (k : Nat) (hi : Inv Gl B A w β st) : Inv Gl B A w (β ++ [0]) (st ++ [.arr k [] 0]) := by
 have hlen := hi.len
 have nl : ∀ {i : Nat}, liveAt (st ++ [.arr k [] 0]) i → liveAt st i := fun {i} ⟨o, h1, h2⟩ => by
  by_cases hl : i < st.length
  ·rw [List.getElem?_append_left hl] at h1; exact ⟨o, h1, h2⟩
  ·rw [List.getElem?_append_right (by omega)] at h1
   cases hk : i - st.length with
   | zero => rw [hk] at h1; simp at h1; subst h1; cases h2
   | succ n => rw [hk] at h1; simp at h1
 have gl : ∀ {i b : Nat}, (β ++ [0])[i]? = some b → liveAt (st ++ [.arr k [] 0]) i → β[i]? = some b := fun {i b} h1 l => by
  have hl : i < st.length := by obtain ⟨o, ho, _⟩ := nl l; exact (List.getElem?_eq_some_iff.1 ho).1
  rwa [List.getElem?_append_left (by omega)] at h1
 refine ⟨by simp [hlen], fun i j b h1 h2 l1 l2 => hi.inj i j b (gl h1 l1) (gl h2 l2) (nl l1) (nl l2), fun i b o h1 h2 => ?_, fun i b h1 l1 => hi.notA i b (gl h1 l1) (nl l1), fun i b h1 l1 => hi.own i b (gl h1 l1) (nl l1), hi.lt, hi.new, hi.old, hi.size, hi.os, hi.tape, hi.output, hi.keep, hi.glob, fun i b h1 h2 => Pre.snoc _ _ _ _ (hi.pre i b h1 h2), hi.apart⟩
 by_cases hl : i < st.length
 ·rw [List.getElem?_append_left (by omega)] at h1 h2
  exact (hi.obj i b o h1 h2).mono (.refl _ _) (Pre.snoc _ _) rfl
 ·rw [List.getElem?_append_right (by omega)] at h2
  cases hk : i - st.length with
  | zero => rw [hk] at h2; simp at h2; subst h2; exact ⟨Nat.le_refl _, Nat.zero_le _, (by intro x hx; cases hx), fun h => (h rfl).elim⟩
  | succ n => rw [hk] at h2; simp at h2
end
end Go.Pw
namespace Go.Pw
open Go
section
variable {P : Program} {Gl : Glob} {B : Base} {tys : List TI} {env : List PV} {st : List PObj} {o : Oper}
end
end Go.Pw
namespace Go.Pw
open Go
section
variable {P : Program} {Gl : Glob} {B : Base} {env : List PV} {st : List PObj} {Q : Post}
theorem LeBy.put {R : PV → PV → Prop} : ∀ {xs ys : List PV} {t : Nat} {x y : PV}, LeBy R xs ys → xs[t]? = some x → R x y → LeBy R xs (ys.set t y)
 | [], [], _, _, _, _, h, _ => by simp at h
 | x :: xs, y :: ys, 0, _, _, h, hx, hr => by cases hx; exact ⟨hr, h.2⟩
 | x :: xs, y :: ys, t + 1, _, _, h, hx, hr => ⟨h.1, LeBy.put h.2 (by simpa using hx) hr⟩
 | [], _ :: _, _, _, _, h, _, _ => h.elim
 | _ :: _, [], _, _, _, h, _, _ => h.elim
end
end Go.Pw
namespace Go.Pw
open Go
section rules
variable {P : Program} {Gl : Glob} {B : Base} {tys : List TI} {env : List PV} {st : List PObj} {ops : Array Oper} {rest : List Oper} {o : Oper} {Q : Post}
 {A : Nat → Prop} {w : World} {β : List Nat} {tmps : List Value}
theorem Inv.arrBox {i cap : Nat} {cs : List PV} (hi : Inv Gl B A w β st) (hst : st[i]? = some (.arr 1 cs cap)) (hc : cs.length = cap) (hpos : cap ≠ 0) (hcell : ∀ c ∈ cs, c.cells = [c]) : Inv Gl B A w β (st.set i (.box cs)) := by
 have hil : i < st.length := (List.getElem?_eq_some_iff.1 hst).1
 have hlen := hi.len
 have hb : β[i]? = some (β[i]'(by omega)) := List.getElem?_eq_getElem (by omega)
 have hlive : PObj.live (.arr 1 cs cap) = true := by cases cap with | zero => exact (hpos rfl).elim | succ c => rfl
 obtain ⟨q1, q2, q3, q4⟩ := hi.obj i _ _ hb hst
 obtain ⟨vs, T, fr, g1, g2, g3, g4⟩ := q4 hpos
 refine (hi.write (x := .box cs) hb hst hlive rfl rfl rfl rfl (fun _ _ => rfl) ⟨vs, T, fr, g1, by omega, fun j hj => g3 j (by omega), fun j c v hcj hv => ?_⟩).1
 have hcm := List.mem_of_getElem? hcj
 obtain ⟨v', hv', hd⟩ := g4 j c 0 c hcj (by rw [hcell c hcm]; rfl)
 rw [Nat.mul_one, Nat.add_zero, hv] at hv'
 cases hv'
 exact hd.lift
theorem pw_arrBox (i : Nat) {c : Code} {cap : Nat} {cs : List PV} (hst : st[i]? = some (.arr 1 cs cap)) (hc : cs.length = cap) (hpos : cap ≠ 0) (hcell : ∀ c ∈ cs, c.cells = [c]) (h : PW P Gl B c env (st.set i (.box cs)) Q) : PW P Gl B c env st Q :=
 fun A w β tmps hi he => h A w β tmps (hi.arrBox hst hc hpos hcell) he
end rules
end Go.Pw
namespace Go.Pw
open Go
section
variable {P : Program} {Gl : Glob} {B : Base} {tys : List TI} {env : List PV} {st : List PObj} {ops : Array Oper} {rest : List Oper} {o : Oper} {Q : Post}
 {A : Nat → Prop} {w : World} {β : List Nat}
theorem v_indexB {t : TypeId} {x y : Operand} {j n cap : Nat} {k : IntKind} {i : Int} (m : Nat) (hT : Tys P tys) (ho : o.op = .indexAddr t x y) {e b z1 z2 : Nat} {z3 : Option (List PV)} (ht : tys[t]? = some ⟨.sl e 1 b, z1, z2, z3⟩)
  (hx : pe env x = .msl 1 j 0 n cap) (hy : pe env y = .int k i) (hm : i.toNat = m) (h0 : 0 ≤ i) (h1 : m < n) (hcap : cap ≠ 0) : OpV P Gl B o env (.ptr j m) := fun _ A w β tmps _ he => by
 obtain ⟨ti, d, hi1, hu, htk, _⟩ := tyOf_spec (hT _ _ ht)
 obtain ⟨rfl, hse⟩ := tkOf_sl' htk
 have hd := he.eval [] x
 rw [hx] at hd
 obtain ⟨bb, hb, hv⟩ := hd.msl_inv hcap
 subst hm
 refine ⟨.pointer (some ⟨bb, i.toNat, none⟩), ?_, .ptr _ _ _ _ hb⟩
 simp only [execOp, ho, int_of he hy, hv, Instr.indexAt, asIntOf, Sem.run_bind, Sem.run_pure, Result.andThen_ok, run_underlying hu]
 have hc : 0 ≤ i ∧ i < ((n : Nat) : Int) := ⟨h0, by omega⟩
 simp only [Sem.run_pure, Result.andThen_ok, if_pos hc, Sem.run_bind, run_size hse, addr_add, Nat.mul_one, Nat.zero_add]
theorem Inv.fill {i cap : Nat} {xs : List PV} (hi : Inv Gl B A w β st) (hst : st[i]? = some (.arr 1 xs cap)) (hpos : cap ≠ 0) : Inv Gl B A w β (st.set i (.arr 1 (xs ++ List.replicate (cap - xs.length) .any) cap)) := by
 have hil : i < st.length := (List.getElem?_eq_some_iff.1 hst).1
 have hlen := hi.len
 have hb : β[i]? = some (β[i]'(by omega)) := List.getElem?_eq_getElem (by omega)
 have hlive : PObj.live (.arr 1 xs cap) = true := by cases cap with | zero => exact (hpos rfl).elim | succ c => rfl
 obtain ⟨q1, q2, q3, q4⟩ := hi.obj i _ _ hb hst
 obtain ⟨vs, T, fr, g1, g2, g3, g4⟩ := q4 hpos
 refine (hi.write (x := .arr 1 (xs ++ List.replicate (cap - xs.length) .any) cap) hb hst hlive rfl rfl rfl rfl (fun _ _ => rfl) ⟨by simp; omega, q2, fun x hx => ?_, fun _ => ⟨vs, T, fr, g1, g2, g3, fun n x j c hx hc => ?_⟩⟩).1
 ·rcases List.mem_append.1 hx with hx | hx
  ·exact q3 x hx
  ·rw [(List.mem_replicate.1 hx).2]; rfl
 ·rcases Nat.lt_or_ge n xs.length with hn | hn
  ·rw [List.getElem?_append_left hn] at hx
   exact g4 n x j c hx hc
  ·rw [List.getElem?_append_right hn] at hx
   have hx1 := (List.mem_replicate.1 (List.mem_of_getElem? hx)).2
   have hx2 := (List.getElem?_eq_some_iff.1 hx).1
   rw [List.length_replicate] at hx2
   subst hx1
   have hj : j = 0 := by
    have := (List.getElem?_eq_some_iff.1 hc).1
    simp [PV.cells] at this
    exact this
   subst hj
   have hca : c = .any := by simpa [PV.cells] using hc.symm
   subst hca
   refine ⟨vs[n * 1 + 0]'(by omega), List.getElem?_eq_getElem _, .any ..⟩
theorem LeBy.app {R : PV → PV → Prop} : ∀ {xs ys xs' ys' : List PV}, LeBy R xs ys → LeBy R xs' ys' → LeBy R (xs ++ xs') (ys ++ ys')
 | [], [], _, _, _, h => h
 | _ :: _, _ :: _, _, _, h, h' => ⟨h.1, h.2.app h'⟩
theorem FSt.put {F : Nat → Bool} : ∀ {i t : Nat} {xs ys : List PObj} {x y : PObj}, FSt F st i xs ys → xs[t]? = some x → F (i + t) = false → FOb F st x y → FSt F st i xs (ys.set t y)
 | i, 0, x :: xs, y :: ys, _, z, h, hx, hF, hr => by
  cases hx
  refine ⟨?_, h.2⟩
  rw [Nat.add_zero] at hF
  rw [hF]; exact hr
 | i, t + 1, x :: xs, y :: ys, _, z, h, hx, hF, hr => ⟨h.1, FSt.put (i := i + 1) (t := t) h.2 (by simpa using hx) (by rw [← hF]; congr 1; omega) hr⟩
 | _, _, [], [], _, _, _, hx, _, _ => by simp at hx
 | _, _, [], _ :: _, _, _, h, _, _, _ => h.elim
 | _, _, _ :: _, [], _, _, h, _, _, _ => h.elim
theorem frzB_core (i b : Nat) {k m cap k' : Nat} {xs cs1 cs2 : List PV} {tmps : List Value} (hb : st[b]? = some (.box (cs1 ++ .msl k i 0 m cap :: cs2))) (hst : st[i]? = some (.arr k' xs cap)) (hm : m = xs.length) (hib : b ≠ i) (hi : Inv Gl B A w β st) (he : EnvRel A w β env tmps) :
  ∃ A', Inv Gl B A' w β ((killF (fun j => j == i) 0 st).set b (.box (cs1 ++ .sl xs :: cs2))) ∧ EnvRel A' w β (env.map (wipe fun j => !(j == i))) tmps := by
 obtain ⟨A', hE, hden, hi'⟩ := hi.freeze fun j => j == i
 have hw := FLe.wipeF (fun j => j == i) st env
 refine ⟨A', hi' _ (FSt.put (killF_spec _ st st 0) hb (by simpa using hib) (.inr (.inr ⟨_, _, rfl, rfl, LeBy.app (LeBy.refl (fun _ => .inr (.inl rfl)) cs1) ⟨.inr (.inr (.inr (.inl ⟨k, i, m, cap, k', xs, rfl, by simp, hst, hm, rfl⟩))), LeBy.refl (fun _ => .inr (.inl rfl)) cs2⟩⟩))), hw.len.symm.trans he.1, fun n p v hp hv => ?_⟩
 obtain ⟨q, hq, hr⟩ := hw.get n p hp
 exact hden 3 q p v hr (he.2 n q v hq hv)
theorem pw_frzB (i b : Nat) {c : Code} {k m cap k' : Nat} {xs cs1 cs2 : List PV} (hb : st[b]? = some (.box (cs1 ++ .msl k i 0 m cap :: cs2))) (hst : st[i]? = some (.arr k' xs cap)) (hm : m = xs.length) (hib : b ≠ i)
  (h : PW P Gl B c (env.map (wipe fun j => !(j == i))) ((killF (fun j => j == i) 0 st).set b (.box (cs1 ++ .sl xs :: cs2))) Q) : PW P Gl B c env st Q := fun _ w β tmps hi he => by
 obtain ⟨A', h1, h2⟩ := frzB_core i b hb hst hm hib hi he
 exact h A' w β tmps h1 h2
theorem pw_st {c : Code} {st' : List PObj} (h : st = st') (hr : PW P Gl B c env st' Q) : PW P Gl B c env st Q := by rw [h]; exact hr
theorem pw_normV {c : Code} {env' : List PV} (h : (forceV env fun e => (e, ())) = (env', ())) (hr : PW P Gl B c env' st Q) : PW P Gl B c env st Q := by
 rw [forceV_eq] at h
 cases h
 exact hr
theorem pl_freezeF (F : Nat → Bool) {env' : List PV} {st' : List PObj} (hs : FSt F st 0 st st') (he' : LeBy (FLe F st 3) env env') (h : PWL P Gl B ops rest env' st' Q) : PWL P Gl B ops rest env st Q := fun A w β tmps hi he => by
 obtain ⟨A', hE, hden, hi'⟩ := hi.freeze F
 refine h A' w β tmps (hi' st' hs) ⟨he'.len.symm.trans he.1, fun i p v hp hv => ?_⟩
 obtain ⟨q, hq, hr⟩ := he'.get i p hp
 exact hden 3 q p v hr (he.2 i q v hq hv)
end
end Go.Pw
namespace Go.Pw
open Go
section
variable {P : Program} {Gl : Glob} {B : Base} {tys : List TI} {env : List PV} {st : List PObj} {o : Oper}
theorem FSt.last (F : Nat → Bool) (st : List PObj) (x : PObj) : ∀ (l : List PObj) (i : Nat), (∀ j, j < l.length → F (i + j) = false) → F (i + l.length) = true → FSt F st i (l ++ [x]) (l ++ [.dead])
 | [], i, _, h => by
  simp only [List.length_nil, Nat.add_zero] at h
  simp only [List.nil_append, FSt, h]
  exact ⟨trivial, trivial⟩
 | y :: l, i, h0, h => by
  have h1 := h0 0 (by simp)
  simp only [Nat.add_zero] at h1
  simp only [List.cons_append, FSt, h1]
  refine ⟨.inr (.inl rfl), FSt.last F st x l (i + 1) (fun j hj => ?_) ?_⟩
  ·have := h0 (j + 1) (by simpa using hj)
   rwa [show i + (j + 1) = i + 1 + j by omega] at this
  ·rwa [List.length_cons, show i + (l.length + 1) = i + 1 + l.length by omega] at h
theorem pl_ghost (k : Nat) {ops : Array Oper} {rest : List Oper} {Q : Post} (h : PWL P Gl B ops rest env (st ++ [.arr k [] 0]) Q) : PWL P Gl B ops rest env st Q := fun A w β tmps hi he => by
 have hlen := hi.len
 have nl : ∀ {i : Nat}, liveAt (st ++ [.arr k [] 0]) i → liveAt st i := fun {i} ⟨o, h1, h2⟩ => by
  by_cases hl : i < st.length
  ·rw [List.getElem?_append_left hl] at h1; exact ⟨o, h1, h2⟩
  ·rw [List.getElem?_append_right (by omega)] at h1
   cases hk : i - st.length with
   | zero => rw [hk] at h1; simp at h1; subst h1; cases h2
   | succ n => rw [hk] at h1; simp at h1
 have gl : ∀ {i b : Nat}, (β ++ [0])[i]? = some b → liveAt (st ++ [.arr k [] 0]) i → β[i]? = some b := fun {i b} h1 l => by
  have hl : i < st.length := by obtain ⟨o, ho, _⟩ := nl l; exact (List.getElem?_eq_some_iff.1 ho).1
  rwa [List.getElem?_append_left (by omega)] at h1
 refine h A w (β ++ [0]) tmps ⟨by simp [hlen], fun i j b h1 h2 l1 l2 => hi.inj i j b (gl h1 l1) (gl h2 l2) (nl l1) (nl l2), fun i b o h1 h2 => ?_, fun i b h1 l1 => hi.notA i b (gl h1 l1) (nl l1), fun i b h1 l1 => hi.own i b (gl h1 l1) (nl l1), hi.lt, hi.new, hi.old, hi.size, hi.os, hi.tape, hi.output, hi.keep, hi.glob, fun i b h1 h2 => Pre.snoc _ _ _ _ (hi.pre i b h1 h2), hi.apart⟩ (he.mono (.refl _ _) (Pre.snoc _ _))
 by_cases hl : i < st.length
 ·rw [List.getElem?_append_left (by omega)] at h1 h2
  exact (hi.obj i b o h1 h2).mono (.refl _ _) (Pre.snoc _ _) rfl
 ·rw [List.getElem?_append_right (by omega)] at h2
  cases hk : i - st.length with
  | zero => rw [hk] at h2; simp at h2; subst h2; exact ⟨Nat.le_refl _, Nat.zero_le _, (by intro x hx; cases hx), fun h => (h rfl).elim⟩
  | succ n => rw [hk] at h2; simp at h2
theorem pl_frzV (F : Nat → Bool) (t : Nat) {ops : Array Oper} {rest : List Oper} {Q : Post} {p y : PV} (ht : env[t]? = some p) (hy : FLe F st 3 p y) (h : PWL P Gl B ops rest ((env.map (wipe fun j => !(F j))).set t y) (killF F 0 st) Q) : PWL P Gl B ops rest env st Q :=
 pl_freezeF F (killF_spec _ st st 0) (LeBy.put (FLe.wipeF _ st env) ht hy) h
end
end Go.Pw
namespace Go.Pw
open Go
inductive Tr where
 | lin (o : List (Nat × Bool))
 | fork (pre : List (Nat × Bool)) (i : Nat) (a : Tr) (j : Nat) (b : Tr)
def Tr.len : Tr → Nat
 | .lin o => o.length
 | .fork pre _ a _ _ => pre.length + (a.len + 1)
def okT (ops : Array Oper) : Tr → Array Bool → Bool
 | .lin o, listed => okOrd ops o listed
 | .fork pre i a j b, listed => okOrdP ops pre listed && Region.ready .any ops (endL pre listed) == [i, j] && okT ops a ((endL pre listed).setIfInBounds i true) && okT ops b ((endL pre listed).setIfInBounds j true) && a.len == b.len
section
variable {P : Program} {Gl : Glob} {B : Base} {env : List PV} {st : List PObj} {Q : Post} {ops : Array Oper}
def bothT (A B : Prop) : Prop := A ∧ B
def PWT (P : Program) (Gl : Glob) (B : Base) (ops : Array Oper) (Q : Post) : Tr → List PV → List PObj → List (Nat × Nat) → Prop
 | .lin o, env, st, L => PWO P Gl B ops (atEnd Q) o env st L
 | .fork pre i a j b, env, st, L => PWO P Gl B ops (fun env st L => bothT (PWO P Gl B ops (PWT P Gl B ops Q a) [(i, false)] env st L) (PWO P Gl B ops (PWT P Gl B ops Q b) [(j, false)] env st L)) pre env st L
theorem pwt_lin {o : List (Nat × Bool)} {L : List (Nat × Nat)} (h : PWO P Gl B ops (atEnd Q) o env st L) : PWT P Gl B ops Q (.lin o) env st L := h
theorem pwt_fork {pre : List (Nat × Bool)} {i j : Nat} {a b : Tr} {L : List (Nat × Nat)} (h : PWO P Gl B ops (fun env st L => bothT (PWO P Gl B ops (PWT P Gl B ops Q a) [(i, false)] env st L) (PWO P Gl B ops (PWT P Gl B ops Q b) [(j, false)] env st L)) pre env st L) : PWT P Gl B ops Q (.fork pre i a j b) env st L := h
theorem pwt_both {A B : Prop} (h1 : A) (h2 : B) : bothT A B := ⟨h1, h2⟩
theorem PWT.sound : ∀ (t : Tr) (listed : Array Bool) (env : List PV) (st : List PObj) (L : List (Nat × Nat)), okT ops t listed = true → PWT P Gl B ops Q t env st L → PWD P Gl B ops Q t.len listed env st L
 | .lin o, listed, env, st, L, hB, h => PWO.sound o listed env st L hB h
 | .fork pre i a j b, listed, env, st, L, hB, h => by
  simp only [okT, Bool.and_eq_true, beq_iff_eq] at hB
  obtain ⟨⟨⟨⟨h1, h2⟩, h3⟩, h4⟩, h5⟩ := hB
  refine PWO.soundP (a.len + 1) pre listed env st L h1 (fun env st L hh => ⟨fun h0 => (by rw [h2] at h0; cases h0), fun k hk => ?_⟩) h
  rw [h2] at hk
  simp only [List.mem_cons, List.mem_nil_iff, or_false] at hk
  rcases hk with rfl | rfl
  ·exact StepD.mono hh.1 fun env' st' ⟨g1, g2⟩ => ⟨g1, PWT.sound a _ _ _ _ h3 g2⟩
  ·exact StepD.mono hh.2 fun env' st' ⟨g1, g2⟩ => ⟨g1, h5 ▸ PWT.sound b _ _ _ _ h4 g2⟩
theorem pw_drawT {id : Nat} {l : List Oper} (t : Tr) (hm : P.follows .mixedOrders = true) (hB : (t.len == l.length && okT l.toArray t (Array.replicate l.length false)) = true)
  (h : PWT P Gl B l.toArray Q t env st []) : PW P Gl B (.region id l.toArray true) env st Q := fun A w β tmps hi he => by
 simp only [Bool.and_eq_true, beq_iff_eq] at hB
 obtain ⟨h2, h3⟩ := hB
 refine wp_region_any hm ?_
 have hE : Ext A w A { w with drawn := w.drawn + 1 } := ⟨fun _ h => h, fun _ _ => rfl⟩
 have := (PWT.sound t _ _ _ _ h3 h).sound t.len hi.drew (he.mono hE (.refl _))
 have hsz : l.toArray.size = t.len := by simp [h2]
 rw [hsz, h2]
 exact h2 ▸ this
end
end Go.Pw
namespace Go.Pw
open Go
section
variable {P : Program} {Gl : Glob} {B : Base} {tys : List TI} {env : List PV} {o : Oper}
theorem v_eqB (hT : Tys P tys) {t t' : TypeId} {x y : Operand} {a b : Bool} {z1 z2 : Nat} {z3 : Option (List PV)} (ht : tys[t]? = some ⟨.bool, z1, z2, z3⟩) (hok : eqOk P 10 t = true) (ho : o.op = .binOp .eql t x y t') (hx : pe env x = .bool a) (hy : pe env y = .bool b) : OpV P Gl B o env (.bool (a == b)) := by
 intro st A w β tmps hi he
 have hdx := he.eval [] x
 have hdy := he.eval [] y
 rw [hx] at hdx
 rw [hy] at hdy
 have hs := eqP_sound (P := P) hT 10 9990 t _ _ (a == b) _ _ hok (by simp [eqP, ht]) hdx hdy
 rw [hdx.bool_inv, hdy.bool_inv] at hs
 refine ⟨.bool (a == b), ?_, .bool ..⟩
 simp only [execOp, ho, Sem.run_bind, hdx.bool_inv, hdy.bool_inv, eqGuard]
 simp only [binOp, Sem.run_bind, Op.equal]
 have hs' : (Op.equalIn 10000 t (.bool a) (.bool b)).run P w = .ok (a == b) w := hs
 simp [hs', Op.maxDepth]
end
end Go.Pw
namespace Go.Pw
open Go
section
variable {P : Program} {Gl : Glob} {B : Base} {tys : List TI} {env : List PV} {o : Oper}
theorem v_neB (hT : Tys P tys) {t t' : TypeId} {x y : Operand} {a b : Bool} {z1 z2 : Nat} {z3 : Option (List PV)} (ht : tys[t]? = some ⟨.bool, z1, z2, z3⟩) (hok : eqOk P 10 t = true) (ho : o.op = .binOp .neq t x y t') (hx : pe env x = .bool a) (hy : pe env y = .bool b) : OpV P Gl B o env (.bool (!(a == b))) := by
 intro st A w β tmps hi he
 have hdx := he.eval [] x
 have hdy := he.eval [] y
 rw [hx] at hdx
 rw [hy] at hdy
 have hs := eqP_sound (P := P) hT 10 9990 t _ _ (a == b) _ _ hok (by simp [eqP, ht]) hdx hdy
 rw [hdx.bool_inv, hdy.bool_inv] at hs
 refine ⟨.bool (!(a == b)), ?_, .bool ..⟩
 simp only [execOp, ho, Sem.run_bind, hdx.bool_inv, hdy.bool_inv, eqGuard]
 simp only [binOp, Sem.run_bind, Op.equal]
 have hs' : (Op.equalIn 10000 t (.bool a) (.bool b)).run P w = .ok (a == b) w := hs
 simp [hs', Op.maxDepth]
end
end Go.Pw
namespace Go.Pw
open Go
section rules
variable {P : Program} {Gl : Glob} {B : Base} {tys : List TI} {env : List PV} {st : List PObj} {o : Oper} {A : Nat → Prop} {w : World} {β : List Nat} {tmps : List Value}
theorem row_zero (zv : Value) (n : Nat) (x : PV) (hx : x.cells = zv.cells.toList.map cv) : RowDen A w zv.cells.size (List.replicate n x) ((List.range (n * zv.cells.size)).map fun i => zv.cells[i % zv.cells.size]!) := by
 refine ⟨by simp, fun y hy => by rw [(List.mem_replicate.1 hy).2, hx]; simp, fun i y j c hy hc => ?_⟩
 have hlt : i < n := by have := (List.getElem?_eq_some_iff.1 hy).1; simpa using this
 obtain rfl : y = x := (List.mem_replicate.1 (List.mem_of_getElem? hy)).2
 rw [hx] at hc
 have hj : j < zv.cells.size := by have := (List.getElem?_eq_some_iff.1 hc).1; simpa using this
 have hi : i * zv.cells.size + j < n * zv.cells.size := by
  have : (i + 1) * zv.cells.size ≤ n * zv.cells.size := Nat.mul_le_mul_right _ hlt
  rw [Nat.add_mul] at this; omega
 have hu : zv.cells.toList[j]? = some zv.cells[j] := by simp [hj]
 refine ⟨zv.cells[j], ?_, zero_den j c _ hc hu⟩
 rw [List.getElem?_map, List.getElem?_range hi, Option.map_some]
 rw [Nat.add_comm, Nat.add_mul_mod_self_right, Nat.mod_eq_of_lt hj]
 simp [hj]
theorem op_makeS {K : PV → List PObj → Prop} {T e s b z1 z2 : Nat} {z3 : Option (List PV)} {zl : List PV} {t1 : TK} {e2 : Nat} {lx cx : Operand} {k k' : IntKind} {n : Int} (x : PV) (hT : Tys P tys) (ho : o.op = .makeSlice T lx cx) (ht : tys[T]? = some ⟨.sl e s b, z1, z2, z3⟩) (hte : tys[e]? = some ⟨t1, s, e2, some zl⟩)
  (hl : pe env lx = .int k n) (hc : pe env cx = .int k' n) (h0 : 0 ≤ n) (hb : (e2 : Int) * n ≤ 281474976710656) (hm : n ≤ maxLen) (h63 : n ≤ 9223372036854775807) (hs : 0 < s) (hzl : zl.length = s) (hx : x.cells = zl) (hK : K (.msl s st.length 0 n.toNat n.toNat) (st ++ [.arr s (List.replicate n.toNat x) n.toNat])) : OpP P Gl B o env st K := by
 have hln : (List.replicate n.toNat x).length = n.toNat := List.length_replicate ..
 refine op_newarr (k := s) (xs := List.replicate n.toNat x) (fun A w β tmps hi he => ?_)
 obtain ⟨ti, d, hi1, hu, htk, _⟩ := tyOf_spec (hT _ _ ht)
 obtain ⟨rfl, hse⟩ := tkOf_sl' htk
 obtain ⟨tie, de, hie, hue, htke, hsze, hbe, hze⟩ := tyOf_spec (hT _ _ hte)
 cases hzv : tie.zero with
 | none => simp only [hzv] at hze; cases hze
 | some zv =>
  rw [hzv] at hze
  simp only [zeroOf, Option.some.injEq] at hze
  dsimp only at hbe hsze
  subst hze
  have hsz : zv.cells.size = s := by simpa using hzl
  subst hsz
  have hrow := row_zero (A := A) (w := w) zv n.toNat x hx
  have hzr : (zeroValue e).run P w = .ok zv w := by simp [zeroValue, run_info hie, hzv]
  refine ⟨w, _, [], n.toNat, e, hi, .refl _ _, hrow, by simp, by rw [hln]; exact Nat.le_refl _, by omega, ?_, by rw [hln]; exact hK⟩
  have wl : IntKind.i64.wrap n = n := by rw [IntKind.wrap_i64]; omega
  rw [hln]
  have n1 : decide (n < 0) = false := decide_eq_false (by omega)
  have n2 : decide ((tie.bytes : Int) * n > 2 ^ 48) = false := decide_eq_false (by rw [← hbe, show (2 : Int) ^ 48 = 281474976710656 from rfl]; omega)
  have n3 : decide (n > n) = false := decide_eq_false (by omega)
  have ha : ∀ (q : IntKind) (w : World), (asInt (.int q n)).run P w = .ok n w := fun _ _ => rfl
  simp only [execOp, ho, int_of he hl, int_of he hc, Instr.makeSlice, Sem.run_bind, run_underlying hu, Result.andThen_ok, ha, run_info hie, wl, n1, n2, n3, Bool.or_false, Bool.false_eq_true, if_false, run_askRoom, run_size hse]
  by_cases h0 : n.toNat * zv.cells.size = 0
  ·have hrow : (Array.range (n.toNat * zv.cells.size)).map (fun i => (#[] : Array Value)[i % (#[] : Array Value).size]!) = (((List.range (n.toNat * zv.cells.size)).map fun i => zv.cells[i % zv.cells.size]!) ++ []).toArray := by simp [h0]
   rw [if_pos h0]
   simp only [Sem.run_bind, Sem.run_pure, Result.andThen_ok, hrow]
   simp [newRow]
  ·have hrow : (Array.range (n.toNat * zv.cells.size)).map (fun i => zv.cells[i % zv.cells.size]!) = (((List.range (n.toNat * zv.cells.size)).map fun i => zv.cells[i % zv.cells.size]!) ++ []).toArray := by
    apply Array.ext'
    simp
   rw [if_neg h0]
   simp only [Sem.run_bind, Sem.run_pure, Result.andThen_ok, hzr, hrow]
   simp [newRow]
end rules
end Go.Pw
namespace Go.Pw
open Go
section
variable {P : Program} {Gl : Glob} {B : Base} {env : List PV} {st : List PObj} {Q : Post}
theorem pw_less {c : Code} {env' : List PV} {st' : List PObj} (he : Le env env') (hs : StLe st st') (h : PW P Gl B c env' st' Q) : PW P Gl B c env st Q := fun A w β tmps hi hE =>
 h A w β tmps (hi.weaken hs) (hE.weaken he)
theorem LeBy.one {R : PV → PV → Prop} (hr : ∀ x, R x x) {x y : PV} (h : R x y) (bs : List PV) : ∀ (as : List PV), LeBy R (as ++ x :: bs) (as ++ y :: bs)
 | [] => ⟨h, LeBy.refl hr bs⟩
 | a :: as => ⟨hr a, LeBy.one hr h bs as⟩
end
end Go.Pw
