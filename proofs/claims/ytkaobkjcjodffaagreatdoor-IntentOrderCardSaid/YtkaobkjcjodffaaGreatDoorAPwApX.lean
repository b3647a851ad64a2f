/-
 Appends of which it is not known whether they add anything.
 Lookups in a map of the function's own that ask for the value alone.
 Drawn regions of which an operation may come up beside several others, one after another: a tree of orders.
 An append whose result is given up for a row at once.
 A place that stands free holds an array of no elements; what is said of frame and store, said with less.
 The code behind the first parts of a sequence, by its place: a walk told in several theorems.
-/
import Derived.Test.YtkaobkjcjodffaaGreatDoorAPwLend
import Derived.Test.YtkaobkjcjodffaaGreatDoorAPwFork
import Derived.Test.YtkaobkjcjodffaaGreatDoorAPwDraw
import Derived.Test.YtkaobkjcjodffaaGreatDoorAPwFrz
import Derived.Test.YtkaobkjcjodffaaGreatDoorAPwBox
namespace Go.Pw
open Go
section
variable {P : Program} {Gl : Glob} {B : Base} {tys : List TI} {env : List PV} {st : List PObj} {ops : Array Oper} {rest : List Oper} {o : Oper} {Q : Post} {A : Nat → Prop} {w : World} {β : List Nat}
theorem StLe.setDead : ∀ (xs : List PObj) (i : Nat), StLe xs (xs.set i .dead)
 | [], _ => trivial
 | _ :: xs, 0 => ⟨.inr (.inl rfl), StLe.refl xs⟩
 | _ :: xs, i + 1 => ⟨.inl rfl, StLe.setDead xs i⟩
theorem Inv.ghost (k : Nat) (hi : Inv Gl B A w β st) : Inv Gl B A w (β ++ [0]) (st ++ [.arr k [] 0]) := by
 have hlen := hi.len
 have nl : ∀ {i : Nat}, liveAt (st ++ [.arr k [] 0]) i → liveAt st i := fun {i} ⟨o, h1, h2⟩ => by
  by_cases hl : i < st.length
  ·rw [List.getElem?_append_left hl] at h1; exact ⟨o, h1, h2⟩
  ·rw [List.getElem?_append_right (by omega)] at h1
   cases hk : i - st.length with
   | zero => rw [hk] at h1; simp at h1; subst h1; cases h2
   | succ n => rw [hk] at h1; simp at h1
 have gl : ∀ {i b : Nat}, (β ++ [0])[i]? = some b → liveAt (st ++ [.arr k [] 0]) i → β[i]? = some b := fun {i b} h1 l => by
  have hl : i < st.length := by obtain ⟨o, ho, _⟩ := nl l; exact (List.getElem?_eq_some_iff.1 ho).1
  rwa [List.getElem?_append_left (by omega)] at h1
 refine ⟨by simp [hlen], fun i j b h1 h2 l1 l2 => hi.inj i j b (gl h1 l1) (gl h2 l2) (nl l1) (nl l2), fun i b o h1 h2 => ?_, fun i b h1 l1 => hi.notA i b (gl h1 l1) (nl l1), fun i b h1 l1 => hi.own i b (gl h1 l1) (nl l1), hi.lt, hi.new, hi.old, hi.size, hi.os, hi.tape, hi.output, hi.keep, hi.glob, fun i b h1 h2 => Pre.snoc _ _ _ _ (hi.pre i b h1 h2), hi.apart⟩
 by_cases hl : i < st.length
 ·rw [List.getElem?_append_left (by omega)] at h1 h2
  exact (hi.obj i b o h1 h2).mono (.refl _ _) (Pre.snoc _ _) rfl
 ·rw [List.getElem?_append_right (by omega)] at h2
  cases hk : i - st.length with
  | zero => rw [hk] at h2; simp at h2; subst h2; exact ⟨Nat.le_refl _, Nat.zero_le _, (by intro x hx; cases hx), fun h => (h rfl).elim⟩
  | succ n => rw [hk] at h2; simp at h2
theorem op_appendX {K : PV → List PObj → Prop} {T T2 s b i n cap : Nat} {x y : Operand} {xs ys : List PV} (hT : Tys P tys) (ho : o.op = .call ⟨.builtin .append, #[x, y], #[T, T2]⟩) (hk : appOk tys T T2 s b = true) (hx : pe env x = .msl s i 0 n cap) (hst : st[i]? = some (.arr s xs cap)) (hn : n = xs.length) (hy : pe env y = .sl ys)
  (hs : ys.all (fun y => y.cells.length == s) = true) (hon : ys.all (fun y => y.cells.all PV.one) = true) (hbd : (xs.length + ys.length) * b ≤ 140737488355328) (hK : ∀ cap', xs.length + ys.length ≤ cap' → K (.msl s st.length 0 (xs.length + ys.length) cap') (st.set i .dead ++ [.arr s (xs ++ ys) cap'])) : OpP P Gl B o env st K := by
 by_cases h : 0 < ys.length ∨ cap ≠ 0
 ·exact op_append hT ho hk hx hst hn hy h hs hon hbd fun cap' h1 _ => hK cap' h1
 ·have hys : ys = [] := List.length_eq_zero_iff.1 (by omega)
  have hcap : cap = 0 := by omega
  subst hys hcap
  intro A w β tmps Q hi he
  have hle : xs.length ≤ 0 := by
   have hil : i < st.length := (List.getElem?_eq_some_iff.1 hst).1
   have hlen := hi.len
   exact (hi.obj i (β[i]'(by omega)) _ (List.getElem?_eq_getElem (by omega)) hst).1
  have hxs : xs = [] := List.length_eq_zero_iff.1 (by omega)
  subst hxs
  subst hn
  refine Oper.wp_mono ?_ (op_append0 (K := fun x' st' => x' = .msl s i 0 0 0 ∧ st' = st) hT ho hk hx hy ⟨rfl, rfl⟩ A w β tmps _ hi he)
  rintro a' w' ⟨v, x', st', A', β', rfl, ⟨rfl, rfl⟩, hd, hi', hE, hβ⟩
  have hv : ∃ a, v = .slice a 0 0 := by
   cases hd with
   | msl _ _ _ _ _ _ b hb => exact ⟨_, rfl⟩
   | mslnil _ _ _ _ a => exact ⟨a, rfl⟩
  obtain ⟨a, rfl⟩ := hv
  refine ⟨_, .msl s st'.length 0 0 0, st'.set i .dead ++ [.arr s [] 0], A', β' ++ [0], rfl, hK 0 (Nat.le_refl _), .mslnil .., ?_, hE, hβ.trans (Pre.snoc _ _)⟩
  have := (hi'.weaken (StLe.setDead st' i)).ghost s
  exact this
end
end Go.Pw
namespace Go.Pw
open Go
section rules
variable {P : Program} {Gl : Glob} {B : Base} {tys : List TI} {env : List PV} {st : List PObj} {Q : Post} {ops : Array Oper} {rest : List Oper} {o : Oper}
theorem op_lookV {K : PV → List PObj → Prop} {t k e : TypeId} {z1 z2 y1 y2 : Nat} {z3 y3 : Option (List PV)} {m x : Operand} {i j : Nat} {s : List UInt8} {p : PV} {es : List (List UInt8 × PV)} (hT : Tys P tys) (ho : o.op = .lookup t m x false) (ht : tys[t]? = some ⟨.map k e, z1, z2, z3⟩) (htk : tys[k]? = some ⟨.str, y1, y2, y3⟩)
  (hm : pe env m = .map i) (hx : pe env x = .str s) (hst : st[i]? = some (.map es)) (hj : es[j]? = some (s, p)) (hno : (es.take j).all (fun e => !(e.1 == s)) = true) (hK : K p st) : OpP P Gl B o env st K := by
 refine op_val (x := p) (fun A w β tmps hi he => ?_) hK
 obtain ⟨ti, d, hi1, hu, htk1, _⟩ := tyOf_spec (hT _ _ ht)
 have := tkOf_map htk1
 subst this
 obtain ⟨ti2, d2, hi2, hu2, htk2, _⟩ := tyOf_spec (hT _ _ htk)
 have := tkOf_str htk2
 subst this
 have hdm := he.eval [] m
 rw [hm] at hdm
 obtain ⟨b, hb, hvm⟩ : ∃ b, β[i]? = some b ∧ (⟨tmps.toArray, []⟩ : Act).eval m = .map (some b) := by
  generalize (⟨tmps.toArray, []⟩ : Act).eval m = u at hdm
  cases hdm with | map _ _ b hb => exact ⟨b, hb, rfl⟩
 obtain ⟨mes, cl, h1, h2, h3⟩ := hi.obj i b _ hb hst
 obtain ⟨e', g1, g2, g3⟩ := h3 j s p hj
 have hf := findNow_some ⟨s.toArray⟩ mes 0 j e' g1 g2 (fun q e hq he => by
  have hlt : q < es.length := by rw [← h2]; exact (List.getElem?_eq_some_iff.1 he).1
  obtain ⟨e2, q1, q2, _⟩ := h3 q es[q].1 es[q].2 (List.getElem?_eq_getElem hlt)
  rw [he] at q1
  cases q1
  refine ⟨_, q2, bytes_ne fun hs => ?_⟩
  have := List.all_eq_true.1 hno es[q] (List.mem_of_getElem? (by rw [List.getElem?_take, if_pos hq]; exact List.getElem?_eq_getElem hlt))
  simp [hs] at this)
 refine ⟨e'.val, ?_, g3⟩
 ·simp only [execOp, ho, Instr.lookup, Sem.run_bind, run_underlying hu, Result.andThen_ok, hvm, MapKept.run_getObj_map h1, str_of he hx, run_checkKey hu2, Instr.findKey, run_underlying hu2, hf, Sem.run_pure, Bool.false_eq_true, if_false]
theorem op_lookV0 {K : PV → List PObj → Prop} {t k e : TypeId} {z1 z2 y1 y2 : Nat} {zv : Value} {z3 y3 : Option (List PV)} {m x : Operand} {i : Nat} {s : List UInt8} {es : List (List UInt8 × PV)} (hT : Tys P tys) (ho : o.op = .lookup t m x false) (ht : tys[t]? = some ⟨.map k e, z1, z2, z3⟩) (htk : tys[k]? = some ⟨.str, y1, y2, y3⟩) (hzi : (P.info? e).bind (·.zero) = some zv)
  (hm : pe env m = .map i) (hx : pe env x = .str s) (hst : st[i]? = some (.map es)) (hno : es.all (fun e => !(e.1 == s)) = true) (hK : K (cv zv) st) : OpP P Gl B o env st K := by
 refine op_val (x := cv zv) (fun A w β tmps hi he => ?_) hK
 obtain ⟨ti, d, hi1, hu, htk1, _⟩ := tyOf_spec (hT _ _ ht)
 have := tkOf_map htk1
 subst this
 obtain ⟨ti2, d2, hi2, hu2, htk2, _⟩ := tyOf_spec (hT _ _ htk)
 have := tkOf_str htk2
 subst this
 obtain ⟨ti3, hi3, hzv⟩ := Option.bind_eq_some_iff.1 hzi
 have hdm := he.eval [] m
 rw [hm] at hdm
 obtain ⟨b, hb, hvm⟩ : ∃ b, β[i]? = some b ∧ (⟨tmps.toArray, []⟩ : Act).eval m = .map (some b) := by
  generalize (⟨tmps.toArray, []⟩ : Act).eval m = u at hdm
  cases hdm with | map _ _ b hb => exact ⟨b, hb, rfl⟩
 obtain ⟨mes, cl, h1, h2, h3⟩ := hi.obj i b _ hb hst
 have hf := findNow_none ⟨s.toArray⟩ mes 0 (fun e hem => by
  obtain ⟨j, hj⟩ := List.mem_iff_getElem?.1 hem
  have hlt : j < es.length := by rw [← h2]; exact (List.getElem?_eq_some_iff.1 hj).1
  obtain ⟨e', g1, g2, _⟩ := h3 j es[j].1 es[j].2 (List.getElem?_eq_getElem hlt)
  rw [hj] at g1
  cases g1
  refine ⟨_, g2, bytes_ne fun hs => ?_⟩
  have := List.all_eq_true.1 hno es[j] (List.getElem_mem hlt)
  simp [hs] at this)
 have hz : (zeroValue e).run P w = .ok zv w := by simp [zeroValue, run_info hi3, hzv]
 refine ⟨zv, ?_, den_cv ..⟩
 simp only [execOp, ho, Instr.lookup, Sem.run_bind, run_underlying hu, Result.andThen_ok, hvm, MapKept.run_getObj_map h1, str_of he hx, run_checkKey hu2, Instr.findKey, run_underlying hu2, hf, Sem.run_pure, Bool.false_eq_true, if_false, hz]
end rules
end Go.Pw
namespace Go.Pw
open Go
inductive Tr where
 | lin (o : List (Nat × Bool))
 | fork (pre : List (Nat × Bool)) (i : Nat) (a : Tr) (j : Nat) (b : Tr)
def Tr.len : Tr → Nat
 | .lin o => o.length
 | .fork pre _ a _ _ => pre.length + (a.len + 1)
def okT (ops : Array Oper) : Tr → Array Bool → Bool
 | .lin o, listed => okOrd ops o listed
 | .fork pre i a j b, listed => okOrdP ops pre listed && Region.ready .any ops (endL pre listed) == [i, j] && okT ops a ((endL pre listed).setIfInBounds i true) && okT ops b ((endL pre listed).setIfInBounds j true) && a.len == b.len
section
variable {P : Program} {Gl : Glob} {B : Base} {env : List PV} {st : List PObj} {Q : Post} {ops : Array Oper}
def bothT (A B : Prop) : Prop := A ∧ B
def PWT (P : Program) (Gl : Glob) (B : Base) (ops : Array Oper) (Q : Post) : Tr → List PV → List PObj → List (Nat × Nat) → Prop
 | .lin o, env, st, L => PWO P Gl B ops (atEnd Q) o env st L
 | .fork pre i a j b, env, st, L => PWO P Gl B ops (fun env st L => bothT (PWO P Gl B ops (PWT P Gl B ops Q a) [(i, false)] env st L) (PWO P Gl B ops (PWT P Gl B ops Q b) [(j, false)] env st L)) pre env st L
theorem pwt_lin {o : List (Nat × Bool)} {L : List (Nat × Nat)} (h : PWO P Gl B ops (atEnd Q) o env st L) : PWT P Gl B ops Q (.lin o) env st L := h
theorem pwt_fork {pre : List (Nat × Bool)} {i j : Nat} {a b : Tr} {L : List (Nat × Nat)} (h : PWO P Gl B ops (fun env st L => bothT (PWO P Gl B ops (PWT P Gl B ops Q a) [(i, false)] env st L) (PWO P Gl B ops (PWT P Gl B ops Q b) [(j, false)] env st L)) pre env st L) : PWT P Gl B ops Q (.fork pre i a j b) env st L := h
theorem pwt_both {A B : Prop} (h1 : A) (h2 : B) : bothT A B := ⟨h1, h2⟩
theorem PWT.sound : ∀ (t : Tr) (listed : Array Bool) (env : List PV) (st : List PObj) (L : List (Nat × Nat)), okT ops t listed = true → PWT P Gl B ops Q t env st L → PWD P Gl B ops Q t.len listed env st L
 | .lin o, listed, env, st, L, hB, h => PWO.sound o listed env st L hB h
 | .fork pre i a j b, listed, env, st, L, hB, h => by
  simp only [okT, Bool.and_eq_true, beq_iff_eq] at hB
  obtain ⟨⟨⟨⟨h1, h2⟩, h3⟩, h4⟩, h5⟩ := hB
  refine PWO.soundP (a.len + 1) pre listed env st L h1 (fun env st L hh => ⟨fun h0 => (by rw [h2] at h0; cases h0), fun k hk => ?_⟩) h
  rw [h2] at hk
  simp only [List.mem_cons, List.mem_nil_iff, or_false] at hk
  rcases hk with rfl | rfl
  ·exact StepD.mono hh.1 fun env' st' ⟨g1, g2⟩ => ⟨g1, PWT.sound a _ _ _ _ h3 g2⟩
  ·exact StepD.mono hh.2 fun env' st' ⟨g1, g2⟩ => ⟨g1, h5 ▸ PWT.sound b _ _ _ _ h4 g2⟩
theorem pw_drawT {id : Nat} {l : List Oper} (t : Tr) (hm : P.follows .mixedOrders = true) (hB : (t.len == l.length && okT l.toArray t (Array.replicate l.length false)) = true)
  (h : PWT P Gl B l.toArray Q t env st []) : PW P Gl B (.region id l.toArray true) env st Q := fun A w β tmps hi he => by
 simp only [Bool.and_eq_true, beq_iff_eq] at hB
 obtain ⟨h2, h3⟩ := hB
 refine wp_region_any hm ?_
 have hE : Ext A w A { w with drawn := w.drawn + 1 } := ⟨fun _ h => h, fun _ _ => rfl⟩
 have := (PWT.sound t _ _ _ _ h3 h).sound t.len hi.drew (he.mono hE (.refl _))
 have hsz : l.toArray.size = t.len := by simp [h2]
 rw [hsz, h2]
 exact h2 ▸ this
end
end Go.Pw
namespace Go.Pw
open Go
section
variable {P : Program} {Gl : Glob} {B : Base} {tys : List TI} {env : List PV} {st : List PObj} {o : Oper}
theorem op_frz {K K' : PV → List PObj → Prop} (F : Nat → Bool) (h : OpP P Gl B o env st K') (hK : ∀ x st', K' x st' → ∃ y st'', FLe F st' 3 x y ∧ FSt F st' 0 st' st'' ∧ K y st'') : OpP P Gl B o env st K := fun A w β tmps Q hi he => by
 refine Oper.wp_mono ?_ (h A w β tmps Q hi he)
 rintro a' w' ⟨v, x, st', A', β', h1, h2, h3, h4, h5, h6⟩
 obtain ⟨y, st'', f1, f2, f3⟩ := hK x st' h2
 obtain ⟨A'', hE, hden, hinv⟩ := h4.freeze F
 exact ⟨v, y, st'', A'', β', h1, f3, hden 3 x y v f1 h3, hinv st'' f2, h5.trans ⟨hE.sub, fun _ _ => rfl⟩, h6⟩
theorem FSt.last (F : Nat → Bool) (st : List PObj) (x : PObj) : ∀ (l : List PObj) (i : Nat), (∀ j, j < l.length → F (i + j) = false) → F (i + l.length) = true → FSt F st i (l ++ [x]) (l ++ [.dead])
 | [], i, _, h => by
  simp only [List.length_nil, Nat.add_zero] at h
  simp only [List.nil_append, FSt, h]
  exact ⟨trivial, trivial⟩
 | y :: l, i, h0, h => by
  have h1 := h0 0 (by simp)
  simp only [Nat.add_zero] at h1
  simp only [List.cons_append, FSt, h1]
  refine ⟨.inr (.inl rfl), FSt.last F st x l (i + 1) (fun j hj => ?_) ?_⟩
  ·have := h0 (j + 1) (by simpa using hj)
   rwa [show i + (j + 1) = i + 1 + j by omega] at this
  ·rwa [List.length_cons, show i + (l.length + 1) = i + 1 + l.length by omega] at h
theorem op_appendF {K : PV → List PObj → Prop} {T T2 s b i n cap : Nat} {x y : Operand} {xs ys : List PV} (hT : Tys P tys) (ho : o.op = .call ⟨.builtin .append, #[x, y], #[T, T2]⟩) (hk : appOk tys T T2 s b = true) (hx : pe env x = .msl s i 0 n cap) (hst : st[i]? = some (.arr s xs cap)) (hn : n = xs.length) (hy : pe env y = .sl ys)
  (hs : ys.all (fun y => y.cells.length == s) = true) (hon : ys.all (fun y => y.cells.all PV.one) = true) (hbd : (xs.length + ys.length) * b ≤ 140737488355328) (hK : K (.sl (xs ++ ys)) (st.set i .dead ++ [.dead])) : OpP P Gl B o env st K := by
 refine op_frz (K' := fun r s' => ∃ cap', r = .msl s st.length 0 (xs.length + ys.length) cap' ∧ s' = st.set i .dead ++ [.arr s (xs ++ ys) cap']) (fun j => j == st.length) (op_appendX hT ho hk hx hst hn hy hs hon hbd fun cap' _ => ⟨cap', rfl, rfl⟩) ?_
 rintro r s' ⟨cap', rfl, rfl⟩
 refine ⟨_, _, .inr (.inr (.inr (.inl ⟨s, st.length, _, cap', s, xs ++ ys, rfl, by simp, by simp, by simp, rfl⟩))), FSt.last _ _ _ _ 0 (fun j hj => ?_) ?_, hK⟩
 ·have : j < st.length := by simpa using hj
  simp; omega
 ·simp
theorem po_weak {E : List PV → List PObj → List (Nat × Nat) → Prop} {ops : Array Oper} {rest : List (Nat × Bool)} {i : Nat} {L : List (Nat × Nat)} {oi : Oper} {x y : PV} {lk : Option Nat} (hT : Tys P tys) (ho : ops[i]? = some oi) (hg : oi.guard = none) (hx : pureOp tys st env oi.op = some x) (hl : PLe 2 x y) (hlk : lockOf st env oi.op = lk)
  (hr : PWO P Gl B ops E rest (putE env oi.dst y) st ((lk.toList.map fun p => (i, p)) ++ L)) : PWO P Gl B ops E ((i, true) :: rest) env st L := by
 refine ⟨oi, y, lk, ho, ?_, hr⟩
 unfold Free
 simp only [hg]
 intro st' e2
 subst hlk
 refine op_val (fun A w β tmps hi he => ?_) ⟨rfl, rfl⟩
 have hag : ∀ t, Operand.tmp t ∈ oi.op.operands.toList → (maskE (oi.looksAt ops) 0 env)[t]? = env[t]? := fun t ht => by
  have hm : t ∈ oi.looksAt ops := List.mem_append_left _ (List.mem_filterMap.2 ⟨.tmp t, ht, rfl⟩)
  rw [maskE_get, Nat.zero_add]
  have : (oi.looksAt ops).contains t = true := by simpa using hm
  rw [this]
  cases env[t]? <;> rfl
 obtain ⟨v, h1, h2⟩ := pureOp_sound hT (pureOp_agree hx (fun t ht => hag t ht) e2) hi he
 exact ⟨v, h1, Den.weaken 2 hl h2⟩
theorem pl_ghost (k : Nat) {ops : Array Oper} {rest : List Oper} {Q : Post} (h : PWL P Gl B ops rest env (st ++ [.arr k [] 0]) Q) : PWL P Gl B ops rest env st Q := fun A w β tmps hi he => by
 have hlen := hi.len
 have nl : ∀ {i : Nat}, liveAt (st ++ [.arr k [] 0]) i → liveAt st i := fun {i} ⟨o, h1, h2⟩ => by
  by_cases hl : i < st.length
  ·rw [List.getElem?_append_left hl] at h1; exact ⟨o, h1, h2⟩
  ·rw [List.getElem?_append_right (by omega)] at h1
   cases hk : i - st.length with
   | zero => rw [hk] at h1; simp at h1; subst h1; cases h2
   | succ n => rw [hk] at h1; simp at h1
 have gl : ∀ {i b : Nat}, (β ++ [0])[i]? = some b → liveAt (st ++ [.arr k [] 0]) i → β[i]? = some b := fun {i b} h1 l => by
  have hl : i < st.length := by obtain ⟨o, ho, _⟩ := nl l; exact (List.getElem?_eq_some_iff.1 ho).1
  rwa [List.getElem?_append_left (by omega)] at h1
 refine h A w (β ++ [0]) tmps ⟨by simp [hlen], fun i j b h1 h2 l1 l2 => hi.inj i j b (gl h1 l1) (gl h2 l2) (nl l1) (nl l2), fun i b o h1 h2 => ?_, fun i b h1 l1 => hi.notA i b (gl h1 l1) (nl l1), fun i b h1 l1 => hi.own i b (gl h1 l1) (nl l1), hi.lt, hi.new, hi.old, hi.size, hi.os, hi.tape, hi.output, hi.keep, hi.glob, fun i b h1 h2 => Pre.snoc _ _ _ _ (hi.pre i b h1 h2), hi.apart⟩ (he.mono (.refl _ _) (Pre.snoc _ _))
 by_cases hl : i < st.length
 ·rw [List.getElem?_append_left (by omega)] at h1 h2
  exact (hi.obj i b o h1 h2).mono (.refl _ _) (Pre.snoc _ _) rfl
 ·rw [List.getElem?_append_right (by omega)] at h2
  cases hk : i - st.length with
  | zero => rw [hk] at h2; simp at h2; subst h2; exact ⟨Nat.le_refl _, Nat.zero_le _, (by intro x hx; cases hx), fun h => (h rfl).elim⟩
  | succ n => rw [hk] at h2; simp at h2
theorem pl_mv (i L : Nat) {Q : Post} {ops : Array Oper} {rest : List Oper} {x : PObj} {st0 : List PObj} (hD : ∀ j, B.D j = dOf st0 j) (hLx : st[L]? = some x) (hiL : Nat.beq i L = false) (hdead : ((st[i]?).map PObj.live) = some false) (h0 : dOf st0 i = false) (h1 : dOf st0 L = false)
  (h : PWL P Gl B ops rest (env.map (mvP i L)) (((st.map (mvO i L)).set L .dead).set i (mvO i L x)) Q) : PWL P Gl B ops rest env st Q := fun A w β tmps hi he => by
 obtain ⟨β', h2, h3⟩ := hi.mv hLx (fun e => by subst e; rw [Nat.beq_refl] at hiL; cases hiL) hdead (by rw [hD]; exact h0) (by rw [hD]; exact h1)
 refine h A w β' tmps h2 ⟨by simpa using he.1, fun j p v hp hv => ?_⟩
 rw [List.getElem?_map] at hp
 cases hz : env[j]? with
 | none => rw [hz] at hp; cases hp
 | some z => rw [hz] at hp; cases hp; exact h3 z v (he.2 j z v hz hv)
theorem pl_frzV (F : Nat → Bool) (t : Nat) {ops : Array Oper} {rest : List Oper} {Q : Post} {p y : PV} (ht : env[t]? = some p) (hy : FLe F st 3 p y) (h : PWL P Gl B ops rest ((env.map (wipe fun j => !(F j))).set t y) (killF F 0 st) Q) : PWL P Gl B ops rest env st Q :=
 pl_freezeF F (killF_spec _ st st 0) (LeBy.put (FLe.wipeF _ st env) ht hy) h
end
end Go.Pw
namespace Go.Pw
open Go
section
variable {P : Program} {Gl : Glob} {B : Base} {env : List PV} {st : List PObj} {Q : Post}
theorem pw_revive (i k : Nat) {c : Code} (hst : st[i]? = some .dead) (h : PW P Gl B c env (st.set i (.arr k [] 0)) Q) : PW P Gl B c env st Q :=
 pw_inv (fun _ _ _ hv => hv.revive k hst) h
theorem pw_less {c : Code} {env' : List PV} {st' : List PObj} (he : Le env env') (hs : StLe st st') (h : PW P Gl B c env' st' Q) : PW P Gl B c env st Q := fun A w β tmps hi hE =>
 h A w β tmps (hi.weaken hs) (hE.weaken he)
theorem StLe.setBox {cs ds : List PV} (h : LeBy (PLe 2) cs ds) : ∀ {xs : List PObj} {b : Nat}, xs[b]? = some (.box cs) → StLe xs (xs.set b (.box ds))
 | [], _, hb => by cases hb
 | x :: xs, 0, hb => by
  have hb : x = .box cs := by simpa using hb
  exact ⟨.inr (.inr ⟨_, _, hb, rfl, h⟩), StLe.refl xs⟩
 | _ :: xs, b + 1, hb => ⟨.inl rfl, StLe.setBox h (by simpa using hb)⟩
theorem LeBy.one {R : PV → PV → Prop} (hr : ∀ x, R x x) {x y : PV} (h : R x y) (bs : List PV) : ∀ (as : List PV), LeBy R (as ++ x :: bs) (as ++ y :: bs)
 | [] => ⟨h, LeBy.refl hr bs⟩
 | a :: as => ⟨hr a, LeBy.one hr h bs as⟩
theorem pw_nilm (b k i : Nat) {c : Code} {cs1 cs2 : List PV} (hb : st[b]? = some (.box (cs1 ++ .nilsl :: cs2))) (h : PW P Gl B c env (st.set b (.box (cs1 ++ .msl k i 0 0 0 :: cs2))) Q) : PW P Gl B c env st Q :=
 pw_less (Le.refl _) (StLe.setBox (LeBy.one (fun _ => .inr (.inl rfl)) (.inr (.inr (.inr (.inl ⟨rfl, _, _, rfl⟩)))) cs2 cs1) hb) h
end
end Go.Pw
namespace Go.Pw
open Go
def tlC : Nat → Code → Code
 | 0, c => c
 | n + 1, .seq _ y => tlC n y
 | _ + 1, c => c
def codeOf (f : Func) : Code := f.body.getD .skip
def forceC {α : Type} (c : Code) (k : Code → α) : α :=
 match c with
 | .seq x y => k (.seq x y)
 | .block i x => k (.block i x)
 | .loop x => k (.loop x)
 | .cond o x y => k (.cond o x y)
 | c => k c
theorem forceC_eq {α : Type} (c : Code) (k : Code → α) : forceC c k = k c := by cases c <;> rfl
section
variable {P : Program} {Gl : Glob} {B : Base} {env : List PV} {st : List PObj} {Q : Post}
theorem pw_code {c c' : Code} (h : (forceC c fun x => (x, ())) = (c', ())) (hr : PW P Gl B c' env st Q) : PW P Gl B c env st Q := by
 rw [forceC_eq] at h
 cases h
 exact hr
end
end Go.Pw
