/-
 Appends of which it is not known whether they add anything.
 Lookups in a map of the function's own that ask for the value alone.
 Drawn regions of which an operation may come up beside several others, one after another: a tree of orders.
 An append whose result is given up for a row at once.
 The code behind the first parts of a sequence, by its place: a walk told in several theorems.
 A place that stands free holds an array of no elements; what is said of frame and store, said with less.
 Arrays whose elements refer to other objects of the function's own: kept as boxes.
-/
import Derived.Test.YtkaobkjcjodffaaGreatDoorGPwCopy
import Derived.Test.YtkaobkjcjodffaaGreatDoorGPwMap
import Derived.Test.YtkaobkjcjodffaaGreatDoorGPwDraw
import Derived.Test.YtkaobkjcjodffaaGreatDoorGPwFrz
import Derived.Test.YtkaobkjcjodffaaGreatDoorGPwBox
namespace Go.Pw
open Go
section
variable {P : Program} {Gl : Glob} {B : Base} {tys : List TI} {env : List PV} {st : List PObj} {ops : Array Oper} {rest : List Oper} {o : Oper} {Q : Post} {A : Nat → Prop} {w : World} {β : List Nat}
theorem StLe.setDead : ∀ (xs : List PObj) (i : Nat), StLe xs (xs.set i .dead)
 | [], _ => trivial
 | _ :: xs, 0 => ⟨.inr (.inl rfl), StLe.refl xs⟩
 | _ :: xs, i + 1 => ⟨.inl rfl, StLe.setDead xs i⟩
theorem Inv.ghost (k : Nat) (hi : Inv Gl B A w β st) : Inv Gl B A w (β ++ [0]) (st ++ [.arr k [] 0]) := by
 have hlen := hi.len
 have nl : ∀ {i : Nat}, liveAt (st ++ [.arr k [] 0]) i → liveAt st i := fun {i} ⟨o, h1, h2⟩ => by
  by_cases hl : i < st.length
  ·rw [List.getElem?_append_left hl] at h1; exact ⟨o, h1, h2⟩
  ·rw [List.getElem?_append_right (by omega)] at h1
   cases hk : i - st.length with
   | zero => rw [hk] at h1; simp at h1; subst h1; cases h2
   | succ n => rw [hk] at h1; simp at h1
 have gl : ∀ {i b : Nat}, (β ++ [0])[i]? = some b → liveAt (st ++ [.arr k [] 0]) i → β[i]? = some b := fun {i b} h1 l => by
  have hl : i < st.length := by obtain ⟨o, ho, _⟩ := nl l; exact (List.getElem?_eq_some_iff.1 ho).1
  rwa [List.getElem?_append_left (by omega)] at h1
 refine ⟨by simp [hlen], fun i j b h1 h2 l1 l2 => hi.inj i j b (gl h1 l1) (gl h2 l2) (nl l1) (nl l2), fun i b o h1 h2 => ?_, fun i b h1 l1 => hi.notA i b (gl h1 l1) (nl l1), fun i b h1 l1 => hi.own i b (gl h1 l1) (nl l1), hi.lt, hi.new, hi.old, hi.size, hi.os, hi.tape, hi.output, hi.keep, hi.glob, fun i b h1 h2 => Pre.snoc _ _ _ _ (hi.pre i b h1 h2), hi.apart⟩
 by_cases hl : i < st.length
 ·rw [List.getElem?_append_left (by omega)] at h1 h2
  exact (hi.obj i b o h1 h2).mono (.refl _ _) (Pre.snoc _ _) rfl
 ·rw [List.getElem?_append_right (by omega)] at h2
  cases hk : i - st.length with
  | zero => rw [hk] at h2; simp at h2; subst h2; exact ⟨Nat.le_refl _, Nat.zero_le _, (by intro x hx; cases hx), fun h => (h rfl).elim⟩
  | succ n => rw [hk] at h2; simp at h2
theorem op_appendX {K : PV → List PObj → Prop} {T T2 s b i n cap : Nat} {x y : Operand} {xs ys : List PV} (hT : Tys P tys) (ho : o.op = .call ⟨.builtin .append, #[x, y], #[T, T2]⟩) (hk : appOk tys T T2 s b = true) (hx : pe env x = .msl s i 0 n cap) (hst : st[i]? = some (.arr s xs cap)) (hn : n = xs.length) (hy : pe env y = .sl ys)
  (hs : ys.all (fun y => y.cells.length == s) = true) (hon : ys.all (fun y => y.cells.all PV.one) = true) (hbd : (xs.length + ys.length) * b ≤ 140737488355328) (hK : ∀ cap', xs.length + ys.length ≤ cap' → K (.msl s st.length 0 (xs.length + ys.length) cap') (st.set i .dead ++ [.arr s (xs ++ ys) cap'])) : OpP P Gl B o env st K := by
 by_cases h : 0 < ys.length ∨ cap ≠ 0
 ·exact op_append hT ho hk hx hst hn hy h hs hon hbd fun cap' h1 _ => hK cap' h1
 ·have hys : ys = [] := List.length_eq_zero_iff.1 (by omega)
  have hcap : cap = 0 := by omega
  subst hys hcap
  intro A w β tmps Q hi he
  have hle : xs.length ≤ 0 := by
   have hil : i < st.length := (List.getElem?_eq_some_iff.1 hst).1
   have hlen := hi.len
   exact (hi.obj i (β[i]'(by omega)) _ (List.getElem?_eq_getElem (by omega)) hst).1
  have hxs : xs = [] := List.length_eq_zero_iff.1 (by omega)
  subst hxs
  subst hn
  refine Oper.wp_mono ?_ (op_append0 (K := fun x' st' => x' = .msl s i 0 0 0 ∧ st' = st) hT ho hk hx hy ⟨rfl, rfl⟩ A w β tmps _ hi he)
  rintro a' w' ⟨v, x', st', A', β', rfl, ⟨rfl, rfl⟩, hd, hi', hE, hβ⟩
  have hv : ∃ a, v = .slice a 0 0 := by
   cases hd with
   | msl _ _ _ _ _ _ b hb => exact ⟨_, rfl⟩
   | mslnil _ _ _ _ a => exact ⟨a, rfl⟩
  obtain ⟨a, rfl⟩ := hv
  refine ⟨_, .msl s st'.length 0 0 0, st'.set i .dead ++ [.arr s [] 0], A', β' ++ [0], rfl, hK 0 (Nat.le_refl _), .mslnil .., ?_, hE, hβ.trans (Pre.snoc _ _)⟩
  have := (hi'.weaken (StLe.setDead st' i)).ghost s
  exact this
end
end Go.Pw
namespace Go.Pw
open Go
section rules
variable {P : Program} {Gl : Glob} {B : Base} {tys : List TI} {env : List PV} {st : List PObj} {Q : Post} {ops : Array Oper} {rest : List Oper} {o : Oper}
theorem op_lookV {K : PV → List PObj → Prop} {t k e : TypeId} {z1 z2 y1 y2 : Nat} {z3 y3 : Option (List PV)} {m x : Operand} {i j : Nat} {s : List UInt8} {p : PV} {es : List (List UInt8 × PV)} (hT : Tys P tys) (ho : o.op = .lookup t m x false) (ht : tys[t]? = some ⟨.map k e, z1, z2, z3⟩) (htk : tys[k]? = some ⟨.str, y1, y2, y3⟩)
  (hm : pe env m = .map i) (hx : pe env x = .str s) (hst : st[i]? = some (.map es)) (hj : es[j]? = some (s, p)) (hno : (es.take j).all (fun e => !(e.1 == s)) = true) (hK : K p st) : OpP P Gl B o env st K := by
 refine op_val (x := p) (fun A w β tmps hi he => ?_) hK
 obtain ⟨ti, d, hi1, hu, htk1, _⟩ := tyOf_spec (hT _ _ ht)
 have := tkOf_map htk1
 subst this
 obtain ⟨ti2, d2, hi2, hu2, htk2, _⟩ := tyOf_spec (hT _ _ htk)
 have := tkOf_str htk2
 subst this
 have hdm := he.eval [] m
 rw [hm] at hdm
 obtain ⟨b, hb, hvm⟩ : ∃ b, β[i]? = some b ∧ (⟨tmps.toArray, []⟩ : Act).eval m = .map (some b) := by
  generalize (⟨tmps.toArray, []⟩ : Act).eval m = u at hdm
  cases hdm with | map _ _ b hb => exact ⟨b, hb, rfl⟩
 obtain ⟨mes, cl, h1, h2, h3⟩ := hi.obj i b _ hb hst
 obtain ⟨e', g1, g2, g3⟩ := h3 j s p hj
 have hf := findNow_some ⟨s.toArray⟩ mes 0 j e' g1 g2 (fun q e hq he => by
  have hlt : q < es.length := by rw [← h2]; exact (List.getElem?_eq_some_iff.1 he).1
  obtain ⟨e2, q1, q2, _⟩ := h3 q es[q].1 es[q].2 (List.getElem?_eq_getElem hlt)
  rw [he] at q1
  cases q1
  refine ⟨_, q2, bytes_ne fun hs => ?_⟩
  have := List.all_eq_true.1 hno es[q] (List.mem_of_getElem? (by rw [List.getElem?_take, if_pos hq]; exact List.getElem?_eq_getElem hlt))
  simp [hs] at this)
 refine ⟨e'.val, ?_, g3⟩
 ·simp only [execOp, ho, Instr.lookup, Sem.run_bind, run_underlying hu, Result.andThen_ok, hvm, MapKept.run_getObj_map h1, str_of he hx, run_checkKey hu2, Instr.findKey, run_underlying hu2, hf, Sem.run_pure, Bool.false_eq_true, if_false]
theorem op_lookV0 {K : PV → List PObj → Prop} {t k e : TypeId} {z1 z2 y1 y2 : Nat} {zv : Value} {z3 y3 : Option (List PV)} {m x : Operand} {i : Nat} {s : List UInt8} {es : List (List UInt8 × PV)} (hT : Tys P tys) (ho : o.op = .lookup t m x false) (ht : tys[t]? = some ⟨.map k e, z1, z2, z3⟩) (htk : tys[k]? = some ⟨.str, y1, y2, y3⟩) (hzi : (P.info? e).bind (·.zero) = some zv)
  (hm : pe env m = .map i) (hx : pe env x = .str s) (hst : st[i]? = some (.map es)) (hno : es.all (fun e => !(e.1 == s)) = true) (hK : K (cv zv) st) : OpP P Gl B o env st K := by
 refine op_val (x := cv zv) (fun A w β tmps hi he => ?_) hK
 obtain ⟨ti, d, hi1, hu, htk1, _⟩ := tyOf_spec (hT _ _ ht)
 have := tkOf_map htk1
 subst this
 obtain ⟨ti2, d2, hi2, hu2, htk2, _⟩ := tyOf_spec (hT _ _ htk)
 have := tkOf_str htk2
 subst this
 obtain ⟨ti3, hi3, hzv⟩ := Option.bind_eq_some_iff.1 hzi
 have hdm := he.eval [] m
 rw [hm] at hdm
 obtain ⟨b, hb, hvm⟩ : ∃ b, β[i]? = some b ∧ (⟨tmps.toArray, []⟩ : Act).eval m = .map (some b) := by
  generalize (⟨tmps.toArray, []⟩ : Act).eval m = u at hdm
  cases hdm with | map _ _ b hb => exact ⟨b, hb, rfl⟩
 obtain ⟨mes, cl, h1, h2, h3⟩ := hi.obj i b _ hb hst
 have hf := findNow_none ⟨s.toArray⟩ mes 0 (fun e hem => by
  obtain ⟨j, hj⟩ := List.mem_iff_getElem?.1 hem
  have hlt : j < es.length := by rw [← h2]; exact (List.getElem?_eq_some_iff.1 hj).1
  obtain ⟨e', g1, g2, _⟩ := h3 j es[j].1 es[j].2 (List.getElem?_eq_getElem hlt)
  rw [hj] at g1
  cases g1
  refine ⟨_, g2, bytes_ne fun hs => ?_⟩
  have := List.all_eq_true.1 hno es[j] (List.getElem_mem hlt)
  simp [hs] at this)
 have hz : (zeroValue e).run P w = .ok zv w := by simp [zeroValue, run_info hi3, hzv]
 refine ⟨zv, ?_, den_cv ..⟩
 simp only [execOp, ho, Instr.lookup, Sem.run_bind, run_underlying hu, Result.andThen_ok, hvm, MapKept.run_getObj_map h1, str_of he hx, run_checkKey hu2, Instr.findKey, run_underlying hu2, hf, Sem.run_pure, Bool.false_eq_true, if_false, hz]
end rules
end Go.Pw
namespace Go.Pw
open Go
inductive Tr where
 | lin (o : List (Nat × Bool))
 | fork (pre : List (Nat × Bool)) (i : Nat) (a : Tr) (j : Nat) (b : Tr)
def Tr.len : Tr → Nat
 | .lin o => o.length
 | .fork pre _ a _ _ => pre.length + (a.len + 1)
def okT (ops : Array Oper) : Tr → Array Bool → Bool
 | .lin o, listed => okOrd ops o listed
 | .fork pre i a j b, listed => okOrdP ops pre listed && Region.ready .any ops (endL pre listed) == [i, j] && okT ops a ((endL pre listed).setIfInBounds i true) && okT ops b ((endL pre listed).setIfInBounds j true) && a.len == b.len
section
variable {P : Program} {Gl : Glob} {B : Base} {env : List PV} {st : List PObj} {Q : Post} {ops : Array Oper}
def bothT (A B : Prop) : Prop := A ∧ B
def PWT (P : Program) (Gl : Glob) (B : Base) (ops : Array Oper) (Q : Post) : Tr → List PV → List PObj → List (Nat × Nat) → Prop
 | .lin o, env, st, L => PWO P Gl B ops (atEnd Q) o env st L
 | .fork pre i a j b, env, st, L => PWO P Gl B ops (fun env st L => bothT (PWO P Gl B ops (PWT P Gl B ops Q a) [(i, false)] env st L) (PWO P Gl B ops (PWT P Gl B ops Q b) [(j, false)] env st L)) pre env st L
theorem pwt_lin {o : List (Nat × Bool)} {L : List (Nat × Nat)} (h : PWO P Gl B ops (atEnd Q) o env st L) : PWT P Gl B ops Q (.lin o) env st L := h
theorem pwt_fork {pre : List (Nat × Bool)} {i j : Nat} {a b : Tr} {L : List (Nat × Nat)} (h : PWO P Gl B ops (fun env st L => bothT (PWO P Gl B ops (PWT P Gl B ops Q a) [(i, false)] env st L) (PWO P Gl B ops (PWT P Gl B ops Q b) [(j, false)] env st L)) pre env st L) : PWT P Gl B ops Q (.fork pre i a j b) env st L := h
theorem pwt_both {A B : Prop} (h1 : A) (h2 : B) : bothT A B := ⟨h1, h2⟩
theorem PWT.sound : ∀ (t : Tr) (listed : Array Bool) (env : List PV) (st : List PObj) (L : List (Nat × Nat)), okT ops t listed = true → PWT P Gl B ops Q t env st L → PWD P Gl B ops Q t.len listed env st L
 | .lin o, listed, env, st, L, hB, h => PWO.sound o listed env st L hB h
 | .fork pre i a j b, listed, env, st, L, hB, h => by
  simp only [okT, Bool.and_eq_true, beq_iff_eq] at hB
  obtain ⟨⟨⟨⟨h1, h2⟩, h3⟩, h4⟩, h5⟩ := hB
  refine PWO.soundP (a.len + 1) pre listed env st L h1 (fun env st L hh => ⟨fun h0 => (by rw [h2] at h0; cases h0), fun k hk => ?_⟩) h
  rw [h2] at hk
  simp only [List.mem_cons, List.mem_nil_iff, or_false] at hk
  rcases hk with rfl | rfl
  ·exact StepD.mono hh.1 fun env' st' ⟨g1, g2⟩ => ⟨g1, PWT.sound a _ _ _ _ h3 g2⟩
  ·exact StepD.mono hh.2 fun env' st' ⟨g1, g2⟩ => ⟨g1, h5 ▸ PWT.sound b _ _ _ _ h4 g2⟩
theorem pw_drawT {id : Nat} {l : List Oper} (t : Tr) (hm : P.follows .mixedOrders = true) (hB : (t.len == l.length && okT l.toArray t (Array.replicate l.length false)) = true)
  (h : PWT P Gl B l.toArray Q t env st []) : PW P Gl B (.region id l.toArray true) env st Q := fun A w β tmps hi he => by
 simp only [Bool.and_eq_true, beq_iff_eq] at hB
 obtain ⟨h2, h3⟩ := hB
 refine wp_region_any hm ?_
 have hE : Ext A w A { w with drawn := w.drawn + 1 } := ⟨fun _ h => h, fun _ _ => rfl⟩
 have := (PWT.sound t _ _ _ _ h3 h).sound t.len hi.drew (he.mono hE (.refl _))
 have hsz : l.toArray.size = t.len := by simp [h2]
 rw [hsz, h2]
 exact h2 ▸ this
end
end Go.Pw
namespace Go.Pw
open Go
section
variable {P : Program} {Gl : Glob} {B : Base} {tys : List TI} {env : List PV} {st : List PObj} {o : Oper}
theorem op_frz {K K' : PV → List PObj → Prop} (F : Nat → Bool) (h : OpP P Gl B o env st K') (hK : ∀ x st', K' x st' → ∃ y st'', FLe F st' 3 x y ∧ FSt F st' 0 st' st'' ∧ K y st'') : OpP P Gl B o env st K := fun A w β tmps Q hi he => by
 refine Oper.wp_mono ?_ (h A w β tmps Q hi he)
 rintro a' w' ⟨v, x, st', A', β', h1, h2, h3, h4, h5, h6⟩
 obtain ⟨y, st'', f1, f2, f3⟩ := hK x st' h2
 obtain ⟨A'', hE, hden, hinv⟩ := h4.freeze F
 exact ⟨v, y, st'', A'', β', h1, f3, hden 3 x y v f1 h3, hinv st'' f2, h5.trans ⟨hE.sub, fun _ _ => rfl⟩, h6⟩
theorem FSt.last (F : Nat → Bool) (st : List PObj) (x : PObj) : ∀ (l : List PObj) (i : Nat), (∀ j, j < l.length → F (i + j) = false) → F (i + l.length) = true → FSt F st i (l ++ [x]) (l ++ [.dead])
 | [], i, _, h => by
  simp only [List.length_nil, Nat.add_zero] at h
  simp only [List.nil_append, FSt, h]
  exact ⟨trivial, trivial⟩
 | y :: l, i, h0, h => by
  have h1 := h0 0 (by simp)
  simp only [Nat.add_zero] at h1
  simp only [List.cons_append, FSt, h1]
  refine ⟨.inr (.inl rfl), FSt.last F st x l (i + 1) (fun j hj => ?_) ?_⟩
  ·have := h0 (j + 1) (by simpa using hj)
   rwa [show i + (j + 1) = i + 1 + j by omega] at this
  ·rwa [List.length_cons, show i + (l.length + 1) = i + 1 + l.length by omega] at h
theorem op_appendF {K : PV → List PObj → Prop} {T T2 s b i n cap : Nat} {x y : Operand} {xs ys : List PV} (hT : Tys P tys) (ho : o.op = .call ⟨.builtin .append, #[x, y], #[T, T2]⟩) (hk : appOk tys T T2 s b = true) (hx : pe env x = .msl s i 0 n cap) (hst : st[i]? = some (.arr s xs cap)) (hn : n = xs.length) (hy : pe env y = .sl ys)
  (hs : ys.all (fun y => y.cells.length == s) = true) (hon : ys.all (fun y => y.cells.all PV.one) = true) (hbd : (xs.length + ys.length) * b ≤ 140737488355328) (hK : K (.sl (xs ++ ys)) (st.set i .dead ++ [.dead])) : OpP P Gl B o env st K := by
 refine op_frz (K' := fun r s' => ∃ cap', r = .msl s st.length 0 (xs.length + ys.length) cap' ∧ s' = st.set i .dead ++ [.arr s (xs ++ ys) cap']) (fun j => j == st.length) (op_appendX hT ho hk hx hst hn hy hs hon hbd fun cap' _ => ⟨cap', rfl, rfl⟩) ?_
 rintro r s' ⟨cap', rfl, rfl⟩
 refine ⟨_, _, .inr (.inr (.inr (.inl ⟨s, st.length, _, cap', s, xs ++ ys, rfl, by simp, by simp, by simp, rfl⟩))), FSt.last _ _ _ _ 0 (fun j hj => ?_) ?_, hK⟩
 ·have : j < st.length := by simpa using hj
  simp; omega
 ·simp
theorem po_weak {E : List PV → List PObj → List (Nat × Nat) → Prop} {ops : Array Oper} {rest : List (Nat × Bool)} {i : Nat} {L : List (Nat × Nat)} {oi : Oper} {x y : PV} {lk : Option Nat} (hT : Tys P tys) (ho : ops[i]? = some oi) (hg : oi.guard = none) (hx : pureOp tys st env oi.op = some x) (hl : PLe 2 x y) (hlk : lockOf st env oi.op = lk)
  (hr : PWO P Gl B ops E rest (putE env oi.dst y) st ((lk.toList.map fun p => (i, p)) ++ L)) : PWO P Gl B ops E ((i, true) :: rest) env st L := by
 refine ⟨oi, y, lk, ho, ?_, hr⟩
 unfold Free
 simp only [hg]
 intro st' e2
 subst hlk
 refine op_val (fun A w β tmps hi he => ?_) ⟨rfl, rfl⟩
 have hag : ∀ t, Operand.tmp t ∈ oi.op.operands.toList → (maskE (oi.looksAt ops) 0 env)[t]? = env[t]? := fun t ht => by
  have hm : t ∈ oi.looksAt ops := List.mem_append_left _ (List.mem_filterMap.2 ⟨.tmp t, ht, rfl⟩)
  rw [maskE_get, Nat.zero_add]
  have : (oi.looksAt ops).contains t = true := by simpa using hm
  rw [this]
  cases env[t]? <;> rfl
 obtain ⟨v, h1, h2⟩ := pureOp_sound hT (pureOp_agree hx (fun t ht => hag t ht) e2) hi he
 exact ⟨v, h1, Den.weaken 2 hl h2⟩
theorem pl_ghost (k : Nat) {ops : Array Oper} {rest : List Oper} {Q : Post} (h : PWL P Gl B ops rest env (st ++ [.arr k [] 0]) Q) : PWL P Gl B ops rest env st Q := fun A w β tmps hi he => by
 have hlen := hi.len
 have nl : ∀ {i : Nat}, liveAt (st ++ [.arr k [] 0]) i → liveAt st i := fun {i} ⟨o, h1, h2⟩ => by
  by_cases hl : i < st.length
  ·rw [List.getElem?_append_left hl] at h1; exact ⟨o, h1, h2⟩
  ·rw [List.getElem?_append_right (by omega)] at h1
   cases hk : i - st.length with
   | zero => rw [hk] at h1; simp at h1; subst h1; cases h2
   | succ n => rw [hk] at h1; simp at h1
 have gl : ∀ {i b : Nat}, (β ++ [0])[i]? = some b → liveAt (st ++ [.arr k [] 0]) i → β[i]? = some b := fun {i b} h1 l => by
  have hl : i < st.length := by obtain ⟨o, ho, _⟩ := nl l; exact (List.getElem?_eq_some_iff.1 ho).1
  rwa [List.getElem?_append_left (by omega)] at h1
 refine h A w (β ++ [0]) tmps ⟨by simp [hlen], fun i j b h1 h2 l1 l2 => hi.inj i j b (gl h1 l1) (gl h2 l2) (nl l1) (nl l2), fun i b o h1 h2 => ?_, fun i b h1 l1 => hi.notA i b (gl h1 l1) (nl l1), fun i b h1 l1 => hi.own i b (gl h1 l1) (nl l1), hi.lt, hi.new, hi.old, hi.size, hi.os, hi.tape, hi.output, hi.keep, hi.glob, fun i b h1 h2 => Pre.snoc _ _ _ _ (hi.pre i b h1 h2), hi.apart⟩ (he.mono (.refl _ _) (Pre.snoc _ _))
 by_cases hl : i < st.length
 ·rw [List.getElem?_append_left (by omega)] at h1 h2
  exact (hi.obj i b o h1 h2).mono (.refl _ _) (Pre.snoc _ _) rfl
 ·rw [List.getElem?_append_right (by omega)] at h2
  cases hk : i - st.length with
  | zero => rw [hk] at h2; simp at h2; subst h2; exact ⟨Nat.le_refl _, Nat.zero_le _, (by intro x hx; cases hx), fun h => (h rfl).elim⟩
  | succ n => rw [hk] at h2; simp at h2
theorem pl_mv (i L : Nat) {Q : Post} {ops : Array Oper} {rest : List Oper} {x : PObj} {st0 : List PObj} (hD : ∀ j, B.D j = dOf st0 j) (hLx : st[L]? = some x) (hiL : Nat.beq i L = false) (hdead : ((st[i]?).map PObj.live) = some false) (h0 : dOf st0 i = false) (h1 : dOf st0 L = false)
  (h : PWL P Gl B ops rest (env.map (mvP i L)) (((st.map (mvO i L)).set L .dead).set i (mvO i L x)) Q) : PWL P Gl B ops rest env st Q := fun A w β tmps hi he => by
 obtain ⟨β', h2, h3⟩ := hi.mv hLx (fun e => by subst e; rw [Nat.beq_refl] at hiL; cases hiL) hdead (by rw [hD]; exact h0) (by rw [hD]; exact h1)
 refine h A w β' tmps h2 ⟨by simpa using he.1, fun j p v hp hv => ?_⟩
 rw [List.getElem?_map] at hp
 cases hz : env[j]? with
 | none => rw [hz] at hp; cases hp
 | some z => rw [hz] at hp; cases hp; exact h3 z v (he.2 j z v hz hv)
theorem pl_frzV (F : Nat → Bool) (t : Nat) {ops : Array Oper} {rest : List Oper} {Q : Post} {p y : PV} (ht : env[t]? = some p) (hy : FLe F st 3 p y) (h : PWL P Gl B ops rest ((env.map (wipe fun j => !(F j))).set t y) (killF F 0 st) Q) : PWL P Gl B ops rest env st Q :=
 pl_freezeF F (killF_spec _ st st 0) (LeBy.put (FLe.wipeF _ st env) ht hy) h
end
end Go.Pw
namespace Go.Pw
open Go
def tlC : Nat → Code → Code
 | 0, c => c
 | n + 1, .seq _ y => tlC n y
 | _ + 1, c => c
def codeOf (f : Func) : Code := f.body.getD .skip
def forceC {α : Type} (c : Code) (k : Code → α) : α :=
 match c with
 | .seq x y => k (.seq x y)
 | .block i x => k (.block i x)
 | .loop x => k (.loop x)
 | .cond o x y => k (.cond o x y)
 | c => k c
theorem forceC_eq {α : Type} (c : Code) (k : Code → α) : forceC c k = k c := by cases c <;> rfl
section
variable {P : Program} {Gl : Glob} {B : Base} {env : List PV} {st : List PObj} {Q : Post}
theorem pw_code {c c' : Code} (h : (forceC c fun x => (x, ())) = (c', ())) (hr : PW P Gl B c' env st Q) : PW P Gl B c env st Q := by
 rw [forceC_eq] at h
 cases h
 exact hr
end
end Go.Pw
namespace Go.Pw
open Go
section
variable {P : Program} {Gl : Glob} {B : Base} {env : List PV} {st : List PObj} {Q : Post}
theorem pw_less {c : Code} {env' : List PV} {st' : List PObj} (he : Le env env') (hs : StLe st st') (h : PW P Gl B c env' st' Q) : PW P Gl B c env st Q := fun A w β tmps hi hE =>
 h A w β tmps (hi.weaken hs) (hE.weaken he)
theorem LeBy.one {R : PV → PV → Prop} (hr : ∀ x, R x x) {x y : PV} (h : R x y) (bs : List PV) : ∀ (as : List PV), LeBy R (as ++ x :: bs) (as ++ y :: bs)
 | [] => ⟨h, LeBy.refl hr bs⟩
 | a :: as => ⟨hr a, LeBy.one hr h bs as⟩
end
end Go.Pw
namespace Go.Pw
open Go
section
variable {P : Program} {Gl : Glob} {B : Base} {tys : List TI} {env : List PV} {st : List PObj} {ops : Array Oper} {rest : List Oper} {o : Oper} {Q : Post} {A : Nat → Prop} {w : World} {β : List Nat} {tmps : List Value}
theorem op_litB {K : PV → List PObj → Prop} {T e s b z1 z2 : Nat} {z3 : Option (List PV)} {zl : List PV} {t1 : TK} {e1 e2 : Nat} {x : Operand} {ds : List PV} (hT : Tys P tys) (ho : o.op = .buildSlice T 1 #[(0, x)]) (ht : tys[T]? = some ⟨.sl e s b, z1, z2, z3⟩) (hte : tys[e]? = some ⟨t1, e1, e2, some zl⟩)
  (hx : pe env x = .agg ds) (hs : 0 < s) (hsz : decide (1 * s ≤ 16777216) = true) (h1 : (PV.agg ds).okPart = true) (hds : Nat.beq ds.length s = true) (hK : K (.msl s st.length 0 1 1) (st ++ [.box ds])) : OpP P Gl B o env st K := by
 have hds := Nat.eq_of_beq_eq_true hds
 intro A w β tmps Q' hi he
 obtain ⟨ti, d, hi1, hu, htk, _⟩ := tyOf_spec (hT _ _ ht)
 obtain ⟨rfl, hse⟩ := tkOf_sl' htk
 obtain ⟨tie, de, hie, hue, htke, hsze, _, hze⟩ := tyOf_spec (hT _ _ hte)
 have hdx := he.eval [] x
 rw [hx] at hdx
 obtain ⟨us, hu1, hu2, hu3⟩ := cells_den hdx h1
 have hu2 : ds.length = us.length := hu2
 have hul : us.length = s := by omega
 have hlen := hi.len
 cases hzv : tie.zero with
 | none => simp only [hzv] at hze; cases hze
 | some zv =>
  have hz : (zeroValue e).run P w = .ok zv w := by simp [zeroValue, run_info hie, hzv]
  have hr : (execOp (⟨tmps.toArray, []⟩ : Act).eval o).run P w = .ok (.value (.slice (some ⟨w.heap.size, 0, none⟩) 1 1)) (w.alloc (.cells us.toArray e)) := by
   have hsz' : ¬ (1 * s > 2 ^ 24) := by have := of_decide_eq_true hsz; omega
   have hp : ((#[((0 : Nat), x)] : Array (Nat × Operand)).map fun x => (x.1, (⟨tmps.toArray, []⟩ : Act).eval x.2)).toList = [(0, (⟨tmps.toArray, []⟩ : Act).eval x)] := by simp
   have hrow : (Array.range (1 * s)).map (fun i => zv.cells[i % zv.cells.size]!) = ((List.range (1 * s)).map fun i => zv.cells[i % zv.cells.size]!).toArray := by
    apply Array.ext'
    simp
   have hc1 : Instr.fill (fun i => some (i * s, s)) ((List.range (1 * s)).map fun i => zv.cells[i % zv.cells.size]!).toArray [(0, (⟨tmps.toArray, []⟩ : Act).eval x)] = some us.toArray := by
    simp only [Instr.fill]
    rw [if_neg (by rw [hu1]; simp [hul]), hu1]
    have hf := fold_set (0 * s) us 0 ((List.range (1 * s)).map fun i => zv.cells[i % zv.cells.size]!) (by simp [hul])
    have hf' : us.toArray.zipIdx.foldl (fun (cs : Array Value) (x : Value × Nat) => cs.setIfInBounds (0 * s + x.2) x.1) ((List.range (1 * s)).map fun i => zv.cells[i % zv.cells.size]!).toArray = us.toArray := by
     have h2 : ((List.range (1 * s)).map fun i => zv.cells[i % zv.cells.size]!).take (0 * s + 0) ++ us ++ ((List.range (1 * s)).map fun i => zv.cells[i % zv.cells.size]!).drop (0 * s + 0 + us.length) = us := by
      rw [Nat.zero_mul, List.take_zero, List.nil_append, List.drop_eq_nil_of_le (by simp [hul]), List.append_nil]
     rw [h2] at hf
     refine Eq.trans ?_ hf
     rw [← Array.foldl_toList]; simp
    rw [hf']
   simp only [execOp, ho, Instr.buildSlice, Sem.run_bind, run_underlying hu, Result.andThen_ok, run_size hse, if_neg hsz', hp]
   rw [if_neg (by omega)]
   simp only [Sem.run_bind, Sem.run_pure, Result.andThen_ok, hz, hrow, hc1]
   simp [newRow]
  unfold Oper.wp
  rw [hr]
  have hE := hi.ext_alloc (.cells us.toArray e)
  refine ⟨_, _, _, A, β ++ [w.heap.size], rfl, hK, ?_, hi.snoc _ _ ⟨us, e, (0, 0), ?_, hu2.symm, fun j _ => by simp, fun j c v hc hv => (hu3 j c v hc hv).mono hE (Pre.snoc _ _)⟩, hE, Pre.snoc _ _⟩
  ·have : Den A (w.alloc (.cells us.toArray e)) (β ++ [w.heap.size]) (.msl s st.length 0 1 1) (.slice (some ⟨w.heap.size, 0 * s, none⟩) 1 1) := .msl _ _ _ _ _ _ _ (by rw [← hlen]; simp)
   rwa [Nat.zero_mul] at this
  ·show (w.heap.push _)[w.heap.size]? = _
   simp
theorem run_firstB {k m b : Nat} {cs : List PV} (h : ObjRel A β w b (.box cs)) (hm : m * k ≤ cs.length) (c : Nat) :
  ∃ us : List Value, us.length = m * k ∧ (∀ w2 : World, w2.heap = w.heap → (Builtin.firstCells k m (.slice (some ⟨b, 0, none⟩) m c)).run P w2 = .ok us.toArray w2) ∧ ∀ (j : Nat) c v, j < m * k → cs[j]? = some c → us[j]? = some v → Den A w β c v := by
 obtain ⟨vs, T, fr, h1, h2, h3, h4⟩ := h
 refine ⟨vs.take (m * k), by rw [List.length_take]; omega, fun w2 hw2 => ?_, fun j c v hj hc hv => ?_⟩
 ·have hl := run_loadCells_list (P := P) w2 ⟨b, 0, none⟩ (vs.take (m * k)) (fun j v hj => by
   rw [addr_add, Nat.zero_add, cell_same (w := w) (w' := w2) (by rw [hw2]), obj_cell h1]
   rw [List.getElem?_take] at hj
   split at hj
   ·exact hj
   ·cases hj)
  have hlen : (vs.take (m * k)).length = m * k := by rw [List.length_take]; omega
  rw [hlen] at hl
  simpa only [Builtin.firstCells] using hl
 ·rw [List.getElem?_take, if_pos hj] at hv
  exact h4 j c v hc hv
def appB (s n cap : Nat) (cs ds : List PV) : List PV := (cs.take (n * s) ++ ds) ++ List.replicate ((cap - (n + 1)) * s) .any
theorem appB_len {s n cap : Nat} {cs ds : List PV} (h1 : n * s ≤ cs.length) (h2 : ds.length = s) (h3 : n + 1 ≤ cap) : (appB s n cap cs ds).length = cap * s := by
 unfold appB
 rw [List.length_append, List.length_append, List.length_take, List.length_replicate, Nat.min_eq_left h1, h2, ← Nat.succ_mul, ← Nat.add_mul]
 congr 1
 omega
theorem appB_get {s n cap : Nat} {cs ds : List PV} (h1 : n * s ≤ cs.length) (h2 : ds.length = s) {j : Nat} {c : PV} (h : (appB s n cap cs ds)[j]? = some c) : (j < n * s ∧ cs[j]? = some c) ∨ (n * s ≤ j ∧ j < n * s + s ∧ ds[j - n * s]? = some c) ∨ (n * s + s ≤ j ∧ c = .any) := by
 unfold appB at h
 have hl : (cs.take (n * s)).length = n * s := by rw [List.length_take]; omega
 rcases Nat.lt_or_ge j (n * s) with hj | hj
 ·rw [List.getElem?_append_left (by rw [List.length_append]; omega), List.getElem?_append_left (by omega), List.getElem?_take, if_pos hj] at h
  exact .inl ⟨hj, h⟩
 ·rcases Nat.lt_or_ge j (n * s + s) with hj2 | hj2
  ·rw [List.getElem?_append_left (by rw [List.length_append]; omega), List.getElem?_append_right (by omega), hl] at h
   exact .inr (.inl ⟨hj, hj2, h⟩)
  ·rw [List.getElem?_append_right (by rw [List.length_append]; omega)] at h
   exact .inr (.inr ⟨hj2, (List.mem_replicate.1 (List.mem_of_getElem? h)).2⟩)
theorem op_appB1 {K : PV → List PObj → Prop} {T T2 s b i j n cap : Nat} {x y : Operand} {cs ds : List PV} (hT : Tys P tys) (ho : o.op = .call ⟨.builtin .append, #[x, y], #[T, T2]⟩) (hk : appOk tys T T2 s b = true) (hx : pe env x = .msl s i 0 n cap) (hn : n ≤ cap) (hil : i < st.length) (hst : cap ≠ 0 → st[i]? = some (.box cs) ∧ cs.length = cap * s)
  (hcs : n * s ≤ cs.length) (hy : pe env y = .msl s j 0 1 1) (hst2 : st[j]? = some (.box ds)) (hds : Nat.beq ds.length s = true) (hon : ds.all PV.one = true) (hbd : (n + 1) * b ≤ 140737488355328) (hcm : cap ≤ maxLen)
  (hK : ∀ cap', n + 1 ≤ cap' ∧ cap' ≤ maxLen → K (.msl s st.length 0 (n + 1) cap') (st.set i .dead ++ [.box (appB s n cap' cs ds)])) : OpP P Gl B o env st K := by
 have hds := Nat.eq_of_beq_eq_true hds
 obtain ⟨e, tie, zv, ⟨hu, ⟨e2, hu2⟩, hie, hse, hbe, hzv, hzs⟩, hb0⟩ := appOk_spec hT hk
 intro A w β tmps Q' hi he
 have hdx := he.eval [] x
 have hdy := he.eval [] y
 rw [hx] at hdx
 rw [hy] at hdy
 have hlen := hi.len
 have hjl : j < st.length := (List.getElem?_eq_some_iff.1 hst2).1
 have hbj : β[j]? = some (β[j]'(by omega)) := List.getElem?_eq_getElem (by omega)
 generalize (β[j]'(by omega)) = bj at hbj
 obtain ⟨bj', hbj', hvy⟩ := hdy.msl_inv (by decide)
 rw [hbj] at hbj'
 cases hbj'
 rw [Nat.zero_mul] at hvy
 obtain ⟨us, hul, hf, hud⟩ := run_firstB (P := P) (k := s) (m := 1) (hi.obj j bj _ hbj hst2) (by omega) 1
 rw [Nat.one_mul] at hul hud
 have hlenv : (Builtin.lenOf ((⟨tmps.toArray, []⟩ : Act).eval y)).run P w = .ok 1 w := by rw [hvy]; rfl
 rw [← hvy] at hf
 have hone : ∀ u ∈ us, u.oneCell' = true := fun u hu => by
  obtain ⟨m, hm⟩ := List.mem_iff_getElem?.1 hu
  have hml := (List.getElem?_eq_some_iff.1 hm).1
  have hc : ds[m]? = some (ds[m]'(by omega)) := List.getElem?_eq_getElem (by omega)
  exact one_cell (hud m _ u (by omega) hc hm) (List.all_eq_true.1 hon _ (List.getElem_mem (by omega)))
 have hml : n + 1 ≤ maxLen := by
  have : (n + 1) * 1 ≤ (n + 1) * b := Nat.mul_le_mul_left _ hb0
  unfold maxLen; omega
 have hbb : β[i]? = some (β[i]'(by omega)) := List.getElem?_eq_getElem (by omega)
 generalize (β[i]'(by omega)) = bb at hbb
 unfold Oper.wp
 by_cases hfit : n + 1 ≤ cap
 ·have hne : cap ≠ 0 := by omega
  obtain ⟨hst, hcl⟩ := hst hne
  have hobj := hi.obj i bb _ hbb hst
  obtain ⟨b', hb', hvx⟩ := hdx.msl_inv hne
  rw [hbb] at hb'
  cases hb'
  rw [Nat.zero_mul] at hvx
  obtain ⟨vs, T', fr, h1, h2, h3, h7⟩ := id hobj
  have hle : n * s + s ≤ cap * s := by rw [← Nat.succ_mul]; exact Nat.mul_le_mul_right _ hfit
  obtain ⟨w', r1, r2, r3, r4, r5, r6, r7⟩ := run_storeCells (P := P) bb T' fr us 0 (n * s) vs w h1 (by omega) hone (by rw [h2]; exact h3)
  have hE : Ext A w A w' := ⟨fun _ h => h, fun k hkk => r6 k (fun e => hi.notA i bb hbb ⟨_, hst, rfl⟩ (e ▸ hkk))⟩
  have hx' : ObjRel A β w' bb (.box (appB s n cap cs ds)) := by
   have hal := appB_len (cap := cap) hcs hds hfit
   refine ⟨_, T', fr, r7, by rw [hal]; simp; omega, by rw [hal, ← hcl]; exact h3, fun q c v hc hv => ?_⟩
   rw [Nat.add_zero] at hv
   rcases appB_get hcs hds hc with ⟨hq, hc'⟩ | ⟨hq, hq2, hc'⟩ | ⟨_, rfl⟩
   ·rw [List.append_assoc, List.getElem?_append_left (by rw [List.length_take]; omega), List.getElem?_take, if_pos hq] at hv
    exact (h7 q c v hc' hv).mono hE (.refl _)
   ·have htl : (vs.take (n * s)).length = n * s := by rw [List.length_take]; omega
    rw [List.append_assoc, List.getElem?_append_right (by omega), htl, List.getElem?_append_left (by omega)] at hv
    exact (hud _ c v (by omega) hc' hv).mono hE (.refl _)
   ·exact .any ..
  obtain ⟨hi', hE'⟩ := hi.write hbb hst rfl r2 r3 r4 r5 r6 hx'
  have hmv := hi'.move (i := i) (b := bb) (x := .box (appB s n cap cs ds)) (y := .box (appB s n cap cs ds)) hbb (by rw [List.getElem?_set_self hil]) rfl (hx'.mono (.refl _ _) (Pre.snoc _ _) rfl)
  rw [List.set_set] at hmv
  have hrun := run_fit (P := P) (w := w) hu hu2 (by simp [szOf, hie, hse]) (a := ⟨bb, 0, none⟩) (n := n) (cap := cap) hlenv (hf w rfl) hfit o.type (w' := w') (by rw [addr_add, Nat.zero_add]; exact r1)
  rw [run_callb (o := o) ho rfl, hvx, hrun]
  refine ⟨_, _, _, A, β ++ [bb], rfl, hK cap ⟨hfit, hcm⟩, ?_, hmv, hE', Pre.snoc _ _⟩
  have : Den A w' (β ++ [bb]) (.msl s st.length 0 (n + 1) cap) (.slice (some ⟨bb, 0 * s, none⟩) (n + 1) cap) := .msl _ _ _ _ _ _ _ (by rw [← hlen]; simp)
  rwa [Nat.zero_mul] at this
 ·have hold : ∃ (base : Option Addr) (old : List Value), (⟨tmps.toArray, []⟩ : Act).eval x = .slice base n cap ∧ (∀ w2 : World, w2.heap = w.heap → (Builtin.firstCells s n (.slice base n cap)).run P w2 = .ok old.toArray w2) ∧ old.length = n * s ∧ ∀ (j : Nat) c v, j < n * s → cs[j]? = some c → old[j]? = some v → Den A w β c v := by
   by_cases hne : cap = 0
   ·subst hne
    have : n = 0 := by omega
    subst this
    obtain ⟨a, ha⟩ := hdx.msl_any
    refine ⟨a, [], ha, fun w2 _ => ?_, by simp, fun j c v hj => by omega⟩
    cases a <;> simp [Builtin.firstCells, loadCells, loadCellsFrom]
   ·obtain ⟨hst, hcl⟩ := hst hne
    obtain ⟨b', hb', hvx⟩ := hdx.msl_inv hne
    rw [hbb] at hb'
    cases hb'
    rw [Nat.zero_mul] at hvx
    obtain ⟨old, h0, h1, h2⟩ := run_firstB (P := P) (k := s) (m := n) (hi.obj i bb _ hbb hst) hcs cap
    exact ⟨_, old, hvx, h1, h0, h2⟩
  obtain ⟨base, old, hvx, hold, hol, hod⟩ := hold
  have hg := run_grow (P := P) (w := w) hu hu2 hie hse hbe hzv hb0 (base := base) (n := n) (cap := cap) (v := (⟨tmps.toArray, []⟩ : Act).eval y) (m := 1) (old := old) (new := us) hlenv hold hf (by omega) hbd o.type
  obtain ⟨hc1, hc2⟩ := cap_cut (n + 1) cap e (w.tape w.drawn (Question.appendCap (n + 1) cap e)) hml
  generalize (Question.appendCap (n + 1) cap e).cut (w.tape w.drawn (Question.appendCap (n + 1) cap e)) = cap' at *
  rw [run_callb (o := o) ho rfl, hvx, hg]
  have hE : Ext A w A { w with drawn := w.drawn + 1 } := ⟨fun _ h => h, fun _ _ => rfl⟩
  have hi1 := (hi.weaken (StLe.kill st i)).drew
  have hE2 := hi1.ext_alloc (.cells (old ++ (us ++ (Builtin.zeroCells zv.cells (cap' - (n + 1))).toList)).toArray e)
  have hal := appB_len (cap := cap') hcs hds hc1
  have hsl : (old ++ (us ++ (Builtin.zeroCells zv.cells (cap' - (n + 1))).toList)).length = cap' * s := by
   rw [List.length_append, List.length_append, zeroCells_len, hol, hul, hzs, ← Nat.add_assoc, ← Nat.succ_mul, ← Nat.add_mul]
   congr 1
   omega
  refine ⟨_, _, _, A, β ++ [w.heap.size], rfl, hK cap' ⟨hc1, hc2⟩, ?_, hi1.snoc _ _ ⟨old ++ (us ++ (Builtin.zeroCells zv.cells (cap' - (n + 1))).toList), e, (0, 0), ?_, by rw [hsl, hal], fun q _ => by simp, fun q c v hc hv => ?_⟩, hE.trans hE2, Pre.snoc _ _⟩
  ·have : Den A (({ w with drawn := w.drawn + 1 } : World).alloc (.cells (old ++ (us ++ (Builtin.zeroCells zv.cells (cap' - (n + 1))).toList)).toArray e)) (β ++ [w.heap.size]) (.msl s st.length 0 (n + 1) cap') (.slice (some ⟨w.heap.size, 0 * s, none⟩) (n + 1) cap') := .msl _ _ _ _ _ _ _ (by rw [← hlen]; simp)
   rwa [Nat.zero_mul] at this
  ·show (w.heap.push _)[w.heap.size]? = _
   simp
  ·rcases appB_get hcs hds hc with ⟨hq, hc'⟩ | ⟨hq, hq2, hc'⟩ | ⟨_, rfl⟩
   ·rw [List.getElem?_append_left (by omega)] at hv
    exact (hod q c v hq hc' hv).mono (hE.trans hE2) (Pre.snoc _ _)
   ·rw [List.getElem?_append_right (by omega), hol, List.getElem?_append_left (by omega)] at hv
    exact (hud _ c v (by omega) hc' hv).mono (hE.trans hE2) (Pre.snoc _ _)
   ·exact .any ..
theorem v_indexK {t : TypeId} {x y : Operand} {j n cap s : Nat} {k : IntKind} {i : Int} (m : Nat) (hT : Tys P tys) (ho : o.op = .indexAddr t x y) {e b z1 z2 : Nat} {z3 : Option (List PV)} (ht : tys[t]? = some ⟨.sl e s b, z1, z2, z3⟩)
  (hx : pe env x = .msl s j 0 n cap) (hy : pe env y = .int k i) (hm : i.toNat = m) (h0 : 0 ≤ i) (h1 : m < n) (hcap : cap ≠ 0) : OpV P Gl B o env (.ptr j (m * s)) := fun _ A w β tmps _ he => by
 obtain ⟨ti, d, hi1, hu, htk, _⟩ := tyOf_spec (hT _ _ ht)
 obtain ⟨rfl, hse⟩ := tkOf_sl' htk
 have hd := he.eval [] x
 rw [hx] at hd
 obtain ⟨bb, hb, hv⟩ := hd.msl_inv hcap
 subst hm
 refine ⟨.pointer (some ⟨bb, i.toNat * s, none⟩), ?_, .ptr _ _ _ _ hb⟩
 simp only [execOp, ho, int_of he hy, hv, Instr.indexAt, asIntOf, Sem.run_bind, Sem.run_pure, Result.andThen_ok, run_underlying hu]
 have hc : 0 ≤ i ∧ i < ((n : Nat) : Int) := ⟨h0, by omega⟩
 simp only [Sem.run_pure, Result.andThen_ok, if_pos hc, Sem.run_bind, run_size hse, addr_add, Nat.zero_mul, Nat.zero_add]
theorem flat_get {s : Nat} (rest : List PV) : ∀ {xs : List PV}, (∀ x ∈ xs, x.cells.length = s) → ∀ {i j : Nat} {x c : PV}, xs[i]? = some x → x.cells[j]? = some c → (xs.flatMap PV.cells ++ rest)[i * s + j]? = some c
 | [], _, i, j, x, c, hx, _ => by simp at hx
 | y :: ys, hs, 0, j, x, c, hx, hc => by
  obtain rfl : y = x := by simpa using hx
  have hj := (List.getElem?_eq_some_iff.1 hc).1
  rw [Nat.zero_mul, Nat.zero_add, List.flatMap_cons, List.append_assoc, List.getElem?_append_left hj]
  exact hc
 | y :: ys, hs, i + 1, j, x, c, hx, hc => by
  have hy := hs y (List.mem_cons_self ..)
  have h2 : (i + 1) * s + j = s + (i * s + j) := by rw [Nat.succ_mul]; omega
  rw [List.flatMap_cons, List.append_assoc, h2, List.getElem?_append_right (by omega), hy, Nat.add_sub_cancel_left]
  exact flat_get rest (fun x h => hs x (List.mem_cons_of_mem _ h)) (by simpa using hx) hc
theorem Inv.boxArrK {i s cap : Nat} {cs xs rest : List PV} (hi : Inv Gl B A w β st) (hst : st[i]? = some (.box cs)) (hcs : cs = xs.flatMap PV.cells ++ rest) (hlen : cs.length = cap * s) (hs : ∀ x ∈ xs, x.cells.length = s) (hg : ∀ x ∈ xs, x.cells.all (PV.refs (fun _ => false) 5) = true)
  (hx : xs.length ≤ cap) (hm : cap ≤ maxLen) : Inv Gl B A w β (st.set i (.arr s xs cap)) := by
 have hil : i < st.length := (List.getElem?_eq_some_iff.1 hst).1
 have hl := hi.len
 have hb : β[i]? = some (β[i]'(by omega)) := List.getElem?_eq_getElem (by omega)
 obtain ⟨vs, T, fr, g1, g2, g3, g4⟩ := hi.obj i _ _ hb hst
 refine (hi.write (x := .arr s xs cap) hb hst rfl rfl rfl rfl rfl (fun _ _ => rfl) ⟨hx, hm, hs, fun _ => ⟨vs, T, fr, g1, by omega, fun j hj => g3 j (by omega), fun k x j c hx hc => ?_⟩⟩).1
 have hf := flat_get rest hs hx hc
 rw [← hcs] at hf
 have hk : k * s + j < vs.length := by rw [g2]; exact (List.getElem?_eq_some_iff.1 hf).1
 exact ⟨vs[k * s + j], List.getElem?_eq_getElem hk, (g4 _ c _ hf (List.getElem?_eq_getElem hk)).ground (List.all_eq_true.1 (hg x (List.mem_of_getElem? hx)) c (List.mem_of_getElem? hc))⟩
theorem Inv.arrLess {i k cap : Nat} {xs ys : List PV} (hi : Inv Gl B A w β st) (hst : st[i]? = some (.arr k xs cap)) (hpos : cap ≠ 0) (hl : ys.length = xs.length) (hk : ∀ y ∈ ys, y.cells.length = k)
  (h : ∀ (n : Nat) y, ys[n]? = some y → ∃ x, xs[n]? = some x ∧ ∀ (j : Nat) d, y.cells[j]? = some d → ∃ c, x.cells[j]? = some c ∧ (c = d ∨ c = .nilsl ∧ d = .sl [])) : Inv Gl B A w β (st.set i (.arr k ys cap)) := by
 have hil : i < st.length := (List.getElem?_eq_some_iff.1 hst).1
 have hlen := hi.len
 have hb : β[i]? = some (β[i]'(by omega)) := List.getElem?_eq_getElem (by omega)
 have hlive : PObj.live (.arr k xs cap) = true := by cases cap with | zero => exact (hpos rfl).elim | succ c => rfl
 obtain ⟨q1, q2, q3, q4⟩ := hi.obj i _ _ hb hst
 obtain ⟨vs, T, fr, g1, g2, g3, g4⟩ := q4 hpos
 refine (hi.write (x := .arr k ys cap) hb hst hlive rfl rfl rfl rfl (fun _ _ => rfl) ⟨by omega, q2, hk, fun _ => ⟨vs, T, fr, g1, g2, g3, fun n y j d hy hd => ?_⟩⟩).1
 obtain ⟨x, hx, hc⟩ := h n y hy
 obtain ⟨c, hxc, hcd⟩ := hc j d hd
 obtain ⟨v, hv, hden⟩ := g4 n x j c hx hxc
 refine ⟨v, hv, ?_⟩
 rcases hcd with rfl | ⟨rfl, rfl⟩
 ·exact hden
 ·cases hden
  exact .slnil ..
end
end Go.Pw
