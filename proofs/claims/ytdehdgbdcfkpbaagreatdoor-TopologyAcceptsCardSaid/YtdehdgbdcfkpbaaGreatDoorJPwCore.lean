/-
  A layer of its own over the walk: pure values for Go's values, a store of owned objects, and their relation to the model's worlds; a weakest precondition over pure states. Nothing here speaks of one program.
  The operations: which pure values they yield, and that the model's operations yield values of which these are true.
  Regions: one operation after another, over pure states; the operations that change the store.
  Operations that make and write owned objects, index, slice and reckon.
  Contracts of functions, and calls.
  Operations with something to show: numbers, indexes, slices, strings.
-/
import Derived.WalkKit
import Derived.Orders
namespace Go.Pw
open Go

/-- Pure values. 'any': nothing is known. 'ptr i off': cell 'off' of the owned object number i. 'eptr k i e off': cell 'off' of element e of the owned array i. 'gptr': of a package-level variable. 'vptr cs': the address of cells that never change and read as cs. 'nilsl': the nil slice. 'sl xs': a slice whose cells never change. 'msl k i off len cap': a slice over the owned array number i (elements of k cells). -/
inductive PV where
  | any
  | bool (b : Bool)
  | int (k : IntKind) (n : Int)
  | str (s : List UInt8)
  | nilptr
  | ptr (i off : Nat)
  | eptr (k i e off : Nat)
  | gptr (g off : Nat)
  | vptr (cs : List PV)
  | nilsl
  | sl (xs : List PV)
  | msl (k i off len cap : Nat)
  | nilmap
  | map (i : Nat)
  | nilfn
  | fn (f : FuncId) (caps : List PV)
  | bfn (f : FuncId) (first : List PV)
  | niliface
  | iface (t : TypeId) (v : PV)
  | agg (cs : List PV)
  | tup (vs : List PV)
  deriving Inhabited

def PV.cells : PV → List PV
  | .agg cs => cs
  | v => [v]

/-- A value that fills one cell. -/
def PV.one : PV → Bool
  | .any | .agg _ | .tup _ => false
  | _ => true

/-- Objects that the walk owns: nothing is claimed of a dead one. -/
inductive PObj where
  | dead
  | box (cs : List PV)
  | arr (k : Nat) (xs : List PV) (cap : Nat)
  | map (es : List (List UInt8 × PV))
  deriving Inhabited

def PObj.live : PObj → Bool
  | .dead => false
  | .arr _ _ 0 => false
  | _ => true

def liveAt (st : List PObj) (i : Nat) : Prop := ∃ o, st[i]? = some o ∧ o.live = true

/-- What a pure value says of a value of the model's. A: the blocks that never change. β: the blocks of the owned objects. -/
inductive Den (A : Nat → Prop) (w : World) : List Nat → PV → Value → Prop
  | any (β v) : Den A w β .any v
  | bool (β b) : Den A w β (.bool b) (.bool b)
  | int (β k n) : Den A w β (.int k n) (.int k n)
  | str (β s) : Den A w β (.str s) (.string ⟨s.toArray⟩)
  | nilptr (β) : Den A w β .nilptr (.pointer none)
  | ptr (β i off b) : β[i]? = some b → Den A w β (.ptr i off) (.pointer (some ⟨b, off, none⟩))
  | eptr (β k i e off b) : β[i]? = some b → Den A w β (.eptr k i e off) (.pointer (some ⟨b, e * k + off, none⟩))
  | gptr (β g off) : Den A w β (.gptr g off) (.pointer (some ⟨g, off, none⟩))
  | vptr (β b off cs) (f : Nat → Value) : A b → (∀ (j : Nat) c, cs[j]? = some c → w.cell? ⟨b, off + j, none⟩ = some (f j)) → (∀ (j : Nat) c, cs[j]? = some c → Den A w [] c (f j)) →
      Den A w β (.vptr cs) (.pointer (some ⟨b, off, none⟩))
  | nilsl (β) : Den A w β .nilsl (.slice none 0 0)
  | slnil (β) : Den A w β (.sl []) (.slice none 0 0)
  | sl (β k xs) (a : Addr) (cap : Nat) (f : Nat → Nat → Value) : (xs ≠ [] → A a.block ∧ a.spot = none) → xs.length ≤ cap → cap ≤ maxLen → (∀ x ∈ xs, x.cells.length = k) →
      (∀ (i : Nat) x (j : Nat) c, xs[i]? = some x → x.cells[j]? = some c → w.cell? ⟨a.block, a.off + (i * k + j), none⟩ = some (f i j)) →
      (∀ (i : Nat) x (j : Nat) c, xs[i]? = some x → x.cells[j]? = some c → Den A w [] c (f i j)) →
      Den A w β (.sl xs) (.slice (some a) xs.length cap)
  | msl (β k i off len cap b) : β[i]? = some b → Den A w β (.msl k i off len cap) (.slice (some ⟨b, off * k, none⟩) len cap)
  | mslnil (β k i off) (a : Option Addr) : Den A w β (.msl k i off 0 0) (.slice a 0 0)
  | nilmap (β) : Den A w β .nilmap (.map none)
  | map (β i b) : β[i]? = some b → Den A w β (.map i) (.map (some b))
  | nilfn (β) : Den A w β .nilfn .nilFunc
  | fn (β f cs) (vs : List Value) : cs.length = vs.length → (∀ (j : Nat) c v, cs[j]? = some c → vs[j]? = some v → Den A w β c v) → Den A w β (.fn f cs) (.func (.func f) #[] vs.toArray)
  | bfn (β f cs) (vs : List Value) : cs.length = vs.length → (∀ (j : Nat) c v, cs[j]? = some c → vs[j]? = some v → Den A w β c v) → Den A w β (.bfn f cs) (.func (.func f) vs.toArray #[])
  | niliface (β) : Den A w β .niliface .nilIface
  | iface (β t v u) : Den A w β v u → Den A w β (.iface t v) (.iface t u)
  | agg (β cs) (vs : List Value) : cs.length = vs.length → (∀ (j : Nat) c v, cs[j]? = some c → vs[j]? = some v → Den A w β c v) → Den A w β (.agg cs) (.agg vs.toArray)
  | tup (β cs) (vs : List Value) : cs.length = vs.length → (∀ (j : Nat) c v, cs[j]? = some c → vs[j]? = some v → Den A w β c v) → Den A w β (.tup cs) (.tuple vs.toArray)

/-- What never changes goes on never to change. -/
structure Ext (A : Nat → Prop) (w : World) (A' : Nat → Prop) (w' : World) : Prop where
  sub : ∀ b, A b → A' b
  same : ∀ b, A b → w'.heap[b]? = w.heap[b]?

def Pre (β β' : List Nat) : Prop := ∀ (i b : Nat), β[i]? = some b → β'[i]? = some b

theorem Ext.refl (A : Nat → Prop) (w : World) : Ext A w A w := ⟨fun _ h => h, fun _ _ => rfl⟩
theorem Ext.trans {A A' A'' : Nat → Prop} {w w' w'' : World} (h : Ext A w A' w') (k : Ext A' w' A'' w'') : Ext A w A'' w'' :=
  ⟨fun b hb => k.sub b (h.sub b hb), fun b hb => (k.same b (h.sub b hb)).trans (h.same b hb)⟩
theorem Pre.refl (β : List Nat) : Pre β β := fun _ _ h => h
theorem Pre.trans {β β' β'' : List Nat} (h : Pre β β') (k : Pre β' β'') : Pre β β'' := fun i b hb => k i b (h i b hb)
theorem Pre.snoc (β : List Nat) (l : List Nat) : Pre β (β ++ l) := fun i b h => by
  rw [List.getElem?_append_left (by rcases List.getElem?_eq_some_iff.1 h with ⟨h, _⟩; exact h)]; exact h
theorem Pre.nil (β : List Nat) : Pre [] β := fun i b h => by simp at h

theorem cell_same {w w' : World} {b : Nat} (h : w'.heap[b]? = w.heap[b]?) (off : Nat) : w'.cell? ⟨b, off, none⟩ = w.cell? ⟨b, off, none⟩ := by
  simp only [World.cell?, h]

theorem Den.mono {A A' : Nat → Prop} {w w' : World} {β : List Nat} {p : PV} {v : Value} (h : Den A w β p v) (e : Ext A w A' w') :
    ∀ {β' : List Nat}, Pre β β' → Den A' w' β' p v := by
  induction h with
  | any => intros; exact .any ..
  | bool => intros; exact .bool ..
  | int => intros; exact .int ..
  | str => intros; exact .str ..
  | nilptr => intros; exact .nilptr ..
  | ptr β i off b hb => intro β' hβ; exact .ptr _ _ _ _ (hβ _ _ hb)
  | eptr β k i e off b hb => intro β' hβ; exact .eptr _ _ _ _ _ _ (hβ _ _ hb)
  | gptr => intros; exact .gptr ..
  | vptr β b off cs f hA hc hd ih =>
    intro β' hβ
    exact .vptr _ _ _ _ f (e.sub _ hA) (fun j c h => by rw [cell_same (e.same _ hA)]; exact hc j c h) (fun j c h => ih j c h (Pre.refl _))
  | nilsl => intros; exact .nilsl ..
  | slnil => intros; exact .slnil ..
  | sl β k xs a cap f hA hl hm hk hc hd ih =>
    intro β' hβ
    refine .sl _ k _ _ _ f (fun h => ⟨e.sub _ (hA h).1, (hA h).2⟩) hl hm hk (fun i x j c hx h => ?_) (fun i x j c hx h => ih i x j c hx h (Pre.refl _))
    have hne : xs ≠ [] := by rintro rfl; simp at hx
    rw [cell_same (e.same _ (hA hne).1)]; exact hc i x j c hx h
  | msl β k i off len cap b hb => intro β' hβ; exact .msl _ _ _ _ _ _ _ (hβ _ _ hb)
  | mslnil => intros; exact .mslnil ..
  | nilmap => intros; exact .nilmap ..
  | map β i b hb => intro β' hβ; exact .map _ _ _ (hβ _ _ hb)
  | nilfn => intros; exact .nilfn ..
  | fn β f cs vs hl hd ih => intro β' hβ; exact .fn _ _ _ _ hl (fun j c v h1 h2 => ih j c v h1 h2 hβ)
  | bfn β f cs vs hl hd ih => intro β' hβ; exact .bfn _ _ _ _ hl (fun j c v h1 h2 => ih j c v h1 h2 hβ)
  | niliface => intros; exact .niliface ..
  | iface β t v u hd ih => intro β' hβ; exact .iface _ _ _ _ (ih hβ)
  | agg β cs vs hl hd ih => intro β' hβ; exact .agg _ _ _ hl (fun j c v h1 h2 => ih j c v h1 h2 hβ)
  | tup β cs vs hl hd ih => intro β' hβ; exact .tup _ _ _ hl (fun j c v h1 h2 => ih j c v h1 h2 hβ)

/-- What an owned object says of its block. -/
def ObjRel (A : Nat → Prop) (β : List Nat) (w : World) (b : Nat) : PObj → Prop
  | .dead => True
  | .box cs => ∃ (vs : List Value) (T : TypeId) (fr : Nat × Nat), w.heap[b]? = some (.cells vs.toArray T fr) ∧ vs.length = cs.length ∧ (∀ j, j < cs.length → ¬ (fr.1 ≤ j ∧ j < fr.2)) ∧
      ∀ (j : Nat) c v, cs[j]? = some c → vs[j]? = some v → Den A w β c v
  | .arr k xs cap => xs.length ≤ cap ∧ cap ≤ maxLen ∧ (∀ x ∈ xs, x.cells.length = k) ∧ (cap ≠ 0 → ∃ (vs : List Value) (T : TypeId) (fr : Nat × Nat), w.heap[b]? = some (.cells vs.toArray T fr) ∧ vs.length = cap * k ∧ (∀ j, j < cap * k → ¬ (fr.1 ≤ j ∧ j < fr.2)) ∧
      ∀ (i : Nat) x (j : Nat) c, xs[i]? = some x → x.cells[j]? = some c → ∃ v, vs[i * k + j]? = some v ∧ Den A w [] c v)
  | .map es => ∃ (mes : List MapEntry) (clock : Nat), w.heap[b]? = some (.map mes.toArray clock) ∧ mes.length = es.length ∧ ∀ (j : Nat) k v, es[j]? = some (k, v) → ∃ e, mes[j]? = some e ∧ e.key = .string ⟨k.toArray⟩ ∧ Den A w β v e.val

theorem ObjRel.mono {A A' : Nat → Prop} {β β' : List Nat} {w w' : World} {b : Nat} {o : PObj} (h : ObjRel A β w b o) (e : Ext A w A' w') (hβ : Pre β β')
    (hb : w'.heap[b]? = w.heap[b]?) : ObjRel A' β' w' b o := by
  cases o with
  | dead => trivial
  | box cs =>
    obtain ⟨vs, T, fr, h1, h2, h3, h4⟩ := h
    exact ⟨vs, T, fr, hb.trans h1, h2, h3, fun j c v hc hv => (h4 j c v hc hv).mono e hβ⟩
  | arr k xs cap =>
    obtain ⟨h4, h5, h6, h0⟩ := h
    refine ⟨h4, h5, h6, fun hne => ?_⟩
    obtain ⟨vs, T, fr, h1, h2, h3, h7⟩ := h0 hne
    refine ⟨vs, T, fr, hb.trans h1, h2, h3, fun i x j c hx hc => ?_⟩
    obtain ⟨v, hv, hd⟩ := h7 i x j c hx hc
    exact ⟨v, hv, hd.mono e (Pre.refl _)⟩
  | map es =>
    obtain ⟨mes, cl, h1, h2, h3⟩ := h
    refine ⟨mes, cl, hb.trans h1, h2, fun j k v hj => ?_⟩
    obtain ⟨e1, g1, g2, g3⟩ := h3 j k v hj
    exact ⟨e1, g1, g2, g3.mono e hβ⟩

theorem ObjRel.lt {A : Nat → Prop} {β : List Nat} {w : World} {b : Nat} {o : PObj} (h : ObjRel A β w b o) (hl : o.live = true) : b < w.heap.size := by
  cases o with
  | dead => simp [PObj.live] at hl
  | box cs =>
    obtain ⟨vs, T, fr, h1, _⟩ := h
    rcases Nat.lt_or_ge b w.heap.size with h | h
    · exact h
    · rw [Array.getElem?_eq_none h] at h1; cases h1
  | arr k xs cap =>
    obtain ⟨_, _, _, h0⟩ := h
    obtain ⟨vs, T, fr, h1, _⟩ := h0 (by rintro rfl; simp [PObj.live] at hl)
    rcases Nat.lt_or_ge b w.heap.size with h | h
    · exact h
    · rw [Array.getElem?_eq_none h] at h1; cases h1
  | map es =>
    obtain ⟨mes, cl, h1, _⟩ := h
    rcases Nat.lt_or_ge b w.heap.size with h | h
    · exact h
    · rw [Array.getElem?_eq_none h] at h1; cases h1

/-- What does not live asks for nothing. -/
theorem ObjRel.still {A A' : Nat → Prop} {β β' : List Nat} {w w' : World} {b b' : Nat} {o : PObj} (h : ObjRel A β w b o) (ho : o.live = false) : ObjRel A' β' w' b' o := by
  cases o with
  | dead => trivial
  | box cs => cases ho
  | arr k xs cap =>
    cases cap with
    | zero => exact ⟨h.1, h.2.1, h.2.2.1, fun hne => (hne rfl).elim⟩
    | succ n => cases ho
  | map es => cases ho

/-- What is known of the package-level variables' blocks, once for all. -/
structure Glob where
  n : Nat
  G : Nat → Option Obj

/-- The world in which a call began: its own fixed blocks, and the blocks that it may write. -/
structure Base where
  w : World
  A : Nat → Prop
  K : Nat → Prop
  β : List Nat
  D : Nat → Bool

def PObj.stays : PObj → Bool
  | .arr _ _ _ => false
  | _ => true
/-- A call begins: the blocks of the live objects may be written; objects other than arrays keep their blocks. -/
def base0 (A : Nat → Prop) (w : World) (β : List Nat) (st : List PObj) : Base :=
  ⟨w, A, fun b => ∃ i, β[i]? = some b ∧ liveAt st i, β, fun i => ((st[i]?).map PObj.stays).getD false⟩

structure Inv (Gl : Glob) (B : Base) (A : Nat → Prop) (w : World) (β : List Nat) (st : List PObj) : Prop where
  len : β.length = st.length
  inj : ∀ (i j b : Nat), β[i]? = some b → β[j]? = some b → liveAt st i → liveAt st j → i = j
  obj : ∀ (i b : Nat) o, β[i]? = some b → st[i]? = some o → ObjRel A β w b o
  notA : ∀ (i b : Nat), β[i]? = some b → liveAt st i → ¬ A b
  own : ∀ (i b : Nat), β[i]? = some b → liveAt st i → B.K b ∨ B.w.heap.size ≤ b
  lt : ∀ b, A b → b < w.heap.size
  new : ∀ b, A b → B.A b ∨ B.K b ∨ B.w.heap.size ≤ b
  old : ∀ b, B.A b → A b
  size : B.w.heap.size ≤ w.heap.size
  os : w.os = B.w.os
  tape : w.tape = B.w.tape
  output : w.output = B.w.output
  keep : ∀ b, b < B.w.heap.size → ¬ B.K b → w.heap[b]? = B.w.heap[b]?
  glob : ∀ b, b < Gl.n → B.w.heap[b]? = Gl.G b ∧ ¬ B.K b ∧ b < B.w.heap.size
  pre : ∀ (i b : Nat), B.D i = true → B.β[i]? = some b → β[i]? = some b
  apart : ∀ b, B.A b → ¬ B.K b ∧ b < B.w.heap.size

/-- Any moment may be a call's beginning. -/
theorem Inv.rebase {Gl : Glob} {B : Base} {A : Nat → Prop} {w : World} {β : List Nat} {st : List PObj} (h : Inv Gl B A w β st) : Inv Gl (base0 A w β st) A w β st := by
  refine ⟨h.len, h.inj, h.obj, h.notA, fun i b h1 l1 => .inl ⟨i, h1, l1⟩, h.lt, fun b hb => .inl hb, fun b hb => hb, Nat.le_refl _, rfl, rfl, rfl, fun _ _ _ => rfl, fun b hb => ?_, fun i b _ h => h, fun b hb => ⟨fun hk => ?_, h.lt b hb⟩⟩
  · obtain ⟨g1, g2, g3⟩ := h.glob b hb
    refine ⟨(h.keep b g3 g2).trans g1, fun hk => ?_, Nat.lt_of_lt_of_le g3 h.size⟩
    obtain ⟨i, h1, l1⟩ := hk
    rcases h.own i b h1 l1 with hh | hh
    · exact g2 hh
    · omega
  · obtain ⟨i, h1, l1⟩ := hk
    exact h.notA i b h1 l1 hb

def EnvRel (A : Nat → Prop) (w : World) (β : List Nat) (env : List PV) (tmps : List Value) : Prop :=
  env.length = tmps.length ∧ ∀ (i : Nat) p v, env[i]? = some p → tmps[i]? = some v → Den A w β p v

theorem EnvRel.mono {A A' : Nat → Prop} {w w' : World} {β β' : List Nat} {env : List PV} {tmps : List Value} (h : EnvRel A w β env tmps) (e : Ext A w A' w') (hβ : Pre β β') :
    EnvRel A' w' β' env tmps := ⟨h.1, fun i p v hp hv => (h.2 i p v hp hv).mono e hβ⟩

abbrev Post := Exit → List PV → List PObj → Prop

theorem Inv.ext0 {Gl : Glob} {B : Base} {A : Nat → Prop} {w : World} {β : List Nat} {st : List PObj} (h : Inv Gl B A w β st) : Ext B.A B.w A w :=
  ⟨h.old, fun b hb => h.keep b (h.apart b hb).2 (h.apart b hb).1⟩

/-- The real precondition behind a pure postcondition. -/
def Real (Gl : Glob) (B : Base) (Q : Post) (e : Exit) (a' : Act) (w' : World) : Prop :=
  ∃ env' st' A' β' tmps', a' = ⟨tmps'.toArray, []⟩ ∧ Q e env' st' ∧ Inv Gl B A' w' β' st' ∧ EnvRel A' w' β' env' tmps'

def PW (P : Program) (Gl : Glob) (B : Base) (c : Code) (env : List PV) (st : List PObj) (Q : Post) : Prop :=
  ∀ A w β tmps, Inv Gl B A w β st → EnvRel A w β env tmps → c.wp P (Real Gl B Q) ⟨tmps.toArray, []⟩ w

section rules
variable {P : Program} {Gl : Glob} {B : Base} {env : List PV} {st : List PObj} {Q : Post}

theorem PW.mono {c : Code} {Q' : Post} (h : PW P Gl B c env st Q) (hq : ∀ e env st, Q e env st → Q' e env st) : PW P Gl B c env st Q' :=
  fun A w β tmps hi he => wp_mono (h A w β tmps hi he) fun _ _ _ ⟨env', st', A', β', t', h1, h2, h3⟩ => ⟨env', st', A', β', t', h1, hq _ _ _ h2, h3⟩

theorem pw_skip (h : Q .normal env st) : PW P Gl B .skip env st Q :=
  fun A _w β tmps hi he => wp_skip ⟨env, st, A, β, tmps, rfl, h, hi, he⟩

theorem pw_label {l : Nat} (h : Q .normal env st) : PW P Gl B (.label l) env st Q :=
  fun A _w β tmps hi he => wp_label ⟨env, st, A, β, tmps, rfl, h, hi, he⟩

theorem pw_exit {id : Nat} (h : Q (.exit id) env st) : PW P Gl B (.exit id) env st Q :=
  fun A _w β tmps hi he => wp_exit ⟨env, st, A, β, tmps, rfl, h, hi, he⟩

theorem pw_ret (h : Q .ret env st) : PW P Gl B .ret env st Q :=
  fun A _w β tmps hi he => wp_ret ⟨env, st, A, β, tmps, rfl, h, hi, he⟩

/-- What stands behind the first part of a sequence: at a normal end K, else Q. -/
def andThen (K : List PV → List PObj → Prop) (Q : Post) : Post
  | .normal, env, st => K env st
  | e, env, st => Q e env st

theorem pw_seq_K {x y : Code} {K : List PV → List PObj → Prop} (h : PW P Gl B x env st (andThen K Q)) (hK : ∀ env st, K env st → PW P Gl B y env st Q) :
    PW P Gl B (.seq x y) env st Q := fun A w β tmps hi he => by
  refine wp_seq (wp_mono (h A w β tmps hi he) ?_)
  rintro e a' w' ⟨env', st', A', β', t', rfl, h2, h3, h4⟩
  cases e with
  | normal => exact hK _ _ h2 A' w' β' t' h3 h4
  | _ => exact ⟨env', st', A', β', t', rfl, h2, h3, h4⟩

theorem pw_seq {x y : Code} (h : PW P Gl B x env st (andThen (fun env st => PW P Gl B y env st Q) Q)) : PW P Gl B (.seq x y) env st Q :=
  pw_seq_K h fun _ _ h => h

/-- What stands behind a block. -/
def inBlock (id : Nat) (Q : Post) : Post
  | .exit id', env, st => if id' = id then Q .normal env st else Q (.exit id') env st
  | e, env, st => Q e env st

theorem pw_block {id : Nat} {c : Code} (h : PW P Gl B c env st (inBlock id Q)) : PW P Gl B (.block id c) env st Q := fun A w β tmps hi he => by
  refine wp_block (wp_mono (h A w β tmps hi he) ?_)
  rintro e a' w' ⟨env', st', A', β', t', rfl, h2, h3⟩
  cases e with
  | exit id' =>
    simp only [Go.Exit.inBlock, inBlock] at *
    split
    · rename_i hid; rw [if_pos hid] at h2; exact ⟨env', st', A', β', t', rfl, h2, h3⟩
    · rename_i hid; rw [if_neg hid] at h2; exact ⟨env', st', A', β', t', rfl, h2, h3⟩
  | _ => exact ⟨env', st', A', β', t', rfl, h2, h3⟩

/-- The pure value of an operand. -/
def cv : Value → PV
  | .bool b => .bool b
  | .int k n => .int k n
  | .string s => .str s.data.toList
  | .pointer none => .nilptr
  | .slice none 0 0 => .nilsl
  | .map none => .nilmap
  | .nilFunc => .nilfn
  | .nilIface => .niliface
  | _ => .any

def cvAgg : Value → PV
  | .agg cs => .agg (cs.toList.map cv)
  | v => cv v

def pe (env : List PV) : Operand → PV
  | .tmp t => (env[t]?).getD .any
  | .const v => cvAgg v
  | .global g => .gptr g 0
  | .func f => .fn f []

theorem den_cv (A : Nat → Prop) (w : World) (β : List Nat) (v : Value) : Den A w β (cv v) v := by
  unfold cv
  split <;> first | exact .any .. | exact .bool .. | exact .int .. | exact .nilptr .. | exact .nilsl .. | exact .nilmap .. | exact .nilfn .. | exact .niliface .. | skip
  rename_i s
  exact .str β s.data.toList

theorem den_cvAgg (A : Nat → Prop) (w : World) (β : List Nat) (v : Value) : Den A w β (cvAgg v) v := by
  unfold cvAgg
  split
  · rename_i cs
    refine .agg β (cs.toList.map cv) cs.toList (by simp) ?_
    intro j c v hc hv
    rw [List.getElem?_map, hv] at hc
    cases hc
    exact den_cv ..
  · exact den_cv ..

theorem EnvRel.eval {A : Nat → Prop} {w : World} {β : List Nat} {env : List PV} {tmps : List Value} (h : EnvRel A w β env tmps) (ds : List Deferred) (x : Operand) :
    Den A w β (pe env x) ((⟨tmps.toArray, ds⟩ : Act).eval x) := by
  cases x with
  | tmp t =>
    simp only [pe, Act.eval]
    cases he : env[t]? with
    | none => exact .any ..
    | some p =>
      have hlt : t < env.length := (List.getElem?_eq_some_iff.1 he).1
      have hlt' : t < tmps.length := by rw [← h.1]; exact hlt
      have hv : tmps[t]? = some tmps[t] := List.getElem?_eq_getElem hlt'
      have := h.2 t p _ he hv
      simpa [Array.getD, hlt'] using this
  | const v => exact den_cvAgg ..
  | global g => exact .gptr ..
  | func f => exact .fn β f [] [] rfl (by intro j c v hc; simp at hc)

theorem pw_cond {c : Operand} {x y : Code} {t : Bool} (hc : pe env c = .bool t) (ht : t = true → PW P Gl B x env st Q) (hf : t = false → PW P Gl B y env st Q) :
    PW P Gl B (.cond c x y) env st Q := fun A w β tmps hi he => by
  have hd := he.eval [] c
  rw [hc] at hd
  have : (⟨tmps.toArray, []⟩ : Act).eval c = .bool t := by
    generalize (⟨tmps.toArray, []⟩ : Act).eval c = v at hd
    cases hd; rfl
  exact wp_cond_split this (fun h => ht h A w β tmps hi he) (fun h => hf h A w β tmps hi he)

/-- The second list says less, place by place. -/
def LeBy (R : PV → PV → Prop) : List PV → List PV → Prop
  | [], [] => True
  | x :: xs, y :: ys => R x y ∧ LeBy R xs ys
  | _, _ => False
/-- The second value says less. -/
def PLe : Nat → PV → PV → Prop
  | 0, x, y => x = y
  | n + 1, x, y => y = .any ∨ x = y ∨ (x = .nilsl ∧ y = .sl []) ∨ (x = .nilsl ∧ ∃ k i, y = .msl k i 0 0 0) ∨ ∃ cs ds, x = .agg cs ∧ y = .agg ds ∧ LeBy (PLe n) cs ds
/-- env' says less than env. -/
def Le : List PV → List PV → Prop := LeBy (PLe 2)

theorem LeBy.len {R : PV → PV → Prop} : ∀ {xs ys : List PV}, LeBy R xs ys → xs.length = ys.length
  | [], [], _ => rfl
  | _ :: _, _ :: _, ⟨_, h2⟩ => by simp [LeBy.len h2]
theorem LeBy.get {R : PV → PV → Prop} : ∀ {xs ys : List PV}, LeBy R xs ys → ∀ (i : Nat) p, ys[i]? = some p → ∃ q, xs[i]? = some q ∧ R q p
  | [], [], _, i, p, h => by simp at h
  | x :: xs, y :: ys, ⟨h1, h2⟩, 0, p, h => by simp at h; subst h; exact ⟨x, rfl, h1⟩
  | x :: xs, y :: ys, ⟨h1, h2⟩, i + 1, p, h => by simpa using LeBy.get h2 i p (by simpa using h)

theorem Den.weaken {A : Nat → Prop} {w : World} {β : List Nat} : ∀ (n : Nat) {x y : PV} {v : Value}, PLe n x y → Den A w β x v → Den A w β y v
  | 0, x, y, v, h, hd => by simp only [PLe] at h; subst h; exact hd
  | n + 1, x, y, v, h, hd => by
    simp only [PLe] at h
    rcases h with rfl | rfl | ⟨rfl, rfl⟩ | ⟨rfl, k, i, rfl⟩ | ⟨cs, ds, rfl, rfl, hl⟩
    · exact .any ..
    · exact hd
    · cases hd; exact .slnil ..
    · cases hd; exact .mslnil ..
    · cases hd with
      | agg _ _ vs h1 h2 =>
        refine .agg _ _ _ (hl.len ▸ h1) fun j c u hc hu => ?_
        obtain ⟨q, hq, hr⟩ := hl.get j c hc
        exact Den.weaken n hr (h2 j q u hq hu)

theorem EnvRel.weaken {A : Nat → Prop} {w : World} {β : List Nat} {env env' : List PV} {tmps : List Value} (h : EnvRel A w β env tmps) (hl : Le env env') : EnvRel A w β env' tmps := by
  refine ⟨(LeBy.len hl).symm.trans h.1, fun i p v hp hv => ?_⟩
  obtain ⟨q, hq, hr⟩ := LeBy.get hl i p hp
  exact Den.weaken 2 hr (h.2 i q v hq hv)

/-- The second store says less. -/
def ObLe (x y : PObj) : Prop := x = y ∨ y = .dead ∨ ∃ cs ds, x = .box cs ∧ y = .box ds ∧ Le cs ds
def StLe : List PObj → List PObj → Prop
  | [], [] => True
  | x :: xs, y :: ys => ObLe x y ∧ StLe xs ys
  | _, _ => False
theorem StLe.len : ∀ {xs ys : List PObj}, StLe xs ys → xs.length = ys.length
  | [], [], _ => rfl
  | _ :: _, _ :: _, ⟨_, h2⟩ => by simp [StLe.len h2]
theorem StLe.get : ∀ {xs ys : List PObj}, StLe xs ys → ∀ (i : Nat) p, ys[i]? = some p → ∃ q, xs[i]? = some q ∧ ObLe q p
  | [], [], _, i, p, h => by simp at h
  | x :: xs, y :: ys, ⟨h1, h2⟩, 0, p, h => by simp at h; subst h; exact ⟨x, rfl, h1⟩
  | x :: xs, y :: ys, ⟨h1, h2⟩, i + 1, p, h => by simpa using StLe.get h2 i p (by simpa using h)
theorem StLe.refl : ∀ (xs : List PObj), StLe xs xs
  | [] => trivial
  | _ :: xs => ⟨.inl rfl, StLe.refl xs⟩

theorem Inv.weaken {Gl : Glob} {B : Base} {A : Nat → Prop} {w : World} {β : List Nat} {st st' : List PObj} (h : Inv Gl B A w β st) (hl : StLe st st') : Inv Gl B A w β st' := by
  have lv : ∀ {i : Nat}, liveAt st' i → liveAt st i := fun {i} ⟨o, h1, h2⟩ => by
    obtain ⟨q, hq, hr⟩ := hl.get i o h1
    rcases hr with rfl | rfl | ⟨cs, ds, rfl, rfl, _⟩
    · exact ⟨q, hq, h2⟩
    · cases h2
    · exact ⟨_, hq, rfl⟩
  refine ⟨h.len.trans hl.len, fun i j b h1 h2 l1 l2 => h.inj i j b h1 h2 (lv l1) (lv l2), fun i b o h1 h2 => ?_, fun i b h1 l1 => h.notA i b h1 (lv l1), fun i b h1 l1 => h.own i b h1 (lv l1), h.lt, h.new, h.old, h.size, h.os, h.tape, h.output, h.keep, h.glob, h.pre, h.apart⟩
  obtain ⟨q, hq, hr⟩ := hl.get i o h2
  have := h.obj i b q h1 hq
  rcases hr with rfl | rfl | ⟨cs, ds, rfl, rfl, hle⟩
  · exact this
  · trivial
  · obtain ⟨vs, T, fr, g1, g2, g3, g4⟩ := this
    refine ⟨vs, T, fr, g1, g2.trans (LeBy.len hle), (LeBy.len hle) ▸ g3, fun j c v hc hv => ?_⟩
    obtain ⟨q, hq, hr⟩ := LeBy.get hle j c hc
    exact Den.weaken 2 hr (g4 j q v hq hv)

theorem pw_weakenS {c : Code} {st' : List PObj} (hl : StLe st st') (h : PW P Gl B c env st' Q) : PW P Gl B c env st Q :=
  fun A w β tmps hi he => h A w β tmps (hi.weaken hl) he

theorem pw_weaken {c : Code} {env' : List PV} (hl : Le env env') (h : PW P Gl B c env' st Q) : PW P Gl B c env st Q :=
  fun A w β tmps hi he => h A w β tmps hi (he.weaken hl)

theorem wp_loop_ghost {X : Type} {P : Program} {c : Code} {Q : Exit → Act → World → Prop} {a : Act} {w : World} (I : X → Act → World → Prop) (μ : X → Nat) (x₀ : X) (h₀ : I x₀ a w)
    (round : ∀ x a w, I x a w → c.wp P (Exit.then (fun a' w' => ∃ x', I x' a' w' ∧ μ x' < μ x) Q) a w) : (Code.loop c).wp P Q a w := by
  intro b k cs
  have key : ∀ n x a w, μ x = n → I x a w →
      ∃ e a' w', Q e a' w' ∧ Arrives P (lone (b.at a (.code c :: .inLoop c :: k)) cs w) b k cs e a' w' := by
    intro n
    induction n using Nat.strongRecOn with
    | _ n ih =>
      intro x a w hn hI
      obtain ⟨e, a₁, w₁, hq, harr⟩ := round x a w hI b (.inLoop c :: k) cs
      cases e with
      | normal =>
        obtain ⟨x', hI₁, hlt⟩ := hq
        obtain ⟨e₂, a₂, w₂, hq₂, harr₂⟩ := ih (μ x') (hn ▸ hlt) x' a₁ w₁ rfl hI₁
        exact ⟨e₂, a₂, w₂, hq₂, .of_steps (Steps.trans harr (.one step_inLoop)) harr₂⟩
      | exit id => exact ⟨_, a₁, w₁, hq, .pass (x := .inLoop c) rfl (fun _ _ => .inl (by simp)) harr⟩
      | goto l => exact ⟨_, a₁, w₁, hq, .pass (x := .inLoop c) rfl (fun _ _ => .inl (by simp)) harr⟩
      | ret => exact ⟨_, a₁, w₁, hq, .pass (x := .inLoop c) rfl (fun _ _ => .inl (by simp)) harr⟩
      | panic ch => exact ⟨_, a₁, w₁, hq, .pass (x := .inLoop c) rfl (fun _ _ => .inl (by simp)) harr⟩
      | outgrown => exact ⟨_, a₁, w₁, hq, .pass (x := .inLoop c) rfl (fun _ _ => .inl (by simp)) harr⟩
  obtain ⟨e, a', w', hq, harr⟩ := key _ x₀ a w rfl h₀
  exact ⟨e, a', w', hq, .of_steps (.one step_loop) harr⟩

/-- A loop: what holds at each round's head (by a parameter), and a measure. -/
theorem pw_loop {α : Type} {c : Code} (E : α → List PV) (S : α → List PObj) (I : α → Prop) (μ : α → Nat) (a₀ : α) (h₀ : I a₀) (hE : Le env (E a₀)) (hS : StLe st (S a₀))
    (round : ∀ a, I a → PW P Gl B c (E a) (S a) (andThen (fun env' st' => ∃ a', I a' ∧ μ a' < μ a ∧ Le env' (E a') ∧ StLe st' (S a')) Q)) : PW P Gl B (.loop c) env st Q := fun A w β tmps hi he => by
  refine wp_loop_ghost (fun x a' w' => ∃ A' β' t', a' = ⟨List.toArray t', []⟩ ∧ I x ∧ Inv Gl B A' w' β' (S x) ∧ EnvRel A' w' β' (E x) t') μ a₀ ⟨A, β, tmps, rfl, h₀, hi.weaken hS, he.weaken hE⟩ ?_
  rintro x a' w' ⟨A', β', t', rfl, hx, h1, h2⟩
  refine wp_mono (round x hx A' w' β' t' h1 h2) ?_
  rintro e a₂ w₂ r'
  cases e with
  | normal =>
    obtain ⟨env', st', A₂, β₂, t₂, rfl, ⟨x', g1, g2, g3, g4⟩, g5, g6⟩ := r'
    exact ⟨x', ⟨A₂, β₂, t₂, rfl, g1, g5.weaken g4, g6.weaken g3⟩, g2⟩
  | _ => exact r'
end rules
end Go.Pw
namespace Go.Pw
open Go

/-- What a type is, as far as operations ask. -/
inductive TK where
  | bool | int (k : IntKind) | str | ptr (e : TypeId) | sl (e esz bytes : Nat) | arr (n e esz : Nat) | strct (flds : List (Nat × Nat × Bool × TypeId))
  | map (k e : TypeId) | fn | iface | tup | other
structure TI where
  tk : TK
  size : Nat
  bytes : Nat
  zero : Option (List PV)

def szOf (P : Program) (t : TypeId) : Option Nat := (P.info? t).map (·.size)
def aggD : TypeDesc → Bool
  | .struct _ | .array _ _ => true
  | _ => false
def fldOf (P : Program) (f : Field) : Option (Nat × Nat × Bool × TypeId) :=
  match szOf P f.type, P.underlying f.type with
  | some s, some d => some (f.offset, s, aggD d, f.type)
  | _, _ => none
def fldsOf (P : Program) : List Field → Option (List (Nat × Nat × Bool × TypeId))
  | [] => some []
  | f :: fs => match fldOf P f, fldsOf P fs with
    | some x, some xs => some (x :: xs)
    | _, _ => none
def tkOf (P : Program) : TypeDesc → TK
  | .bool => .bool
  | .int k => .int k
  | .string => .str
  | .pointer e => .ptr e
  | .slice e => match P.info? e with | some i => .sl e i.size i.bytes | none => .other
  | .array n e => match szOf P e with | some s => .arr n e s | none => .other
  | .struct fs => match fldsOf P fs.toList with | some l => .strct l | none => .other
  | .map k e => .map k e
  | .func _ _ _ => .fn
  | .interface _ => .iface
  | .tuple _ => .tup
  | _ => .other
def zeroOf : Option Value → Option (List PV)
  | some v => some (v.cells.toList.map cv)
  | none => none
def tyOf (P : Program) (t : TypeId) : Option TI :=
  match P.info? t, P.underlying t with
  | some i, some d => some ⟨tkOf P d, i.size, i.bytes, zeroOf i.zero⟩
  | _, _ => none

/-- The table of types, of which the kernel says once that it is the program's. -/
def Tys (P : Program) (tys : List TI) : Prop := ∀ (t : Nat) ti, tys[t]? = some ti → tyOf P t = some ti

theorem tys_of (P : Program) (tys : List TI) (h : (List.range tys.length).map (tyOf P) = tys.map some) : Tys P tys := fun t ti ht => by
  have hlt : t < tys.length := (List.getElem?_eq_some_iff.1 ht).1
  have h1 : ((List.range tys.length).map (tyOf P))[t]? = (tys.map some)[t]? := by rw [h]
  rw [List.getElem?_map, List.getElem?_range hlt, List.getElem?_map, ht] at h1
  simpa using h1

theorem tyOf_spec {P : Program} {t : TypeId} {ti : TI} (h : tyOf P t = some ti) :
    ∃ i d, P.info? t = some i ∧ P.underlying t = some d ∧ ti.tk = tkOf P d ∧ ti.size = i.size ∧ ti.bytes = i.bytes ∧ ti.zero = zeroOf i.zero := by
  unfold tyOf at h
  split at h
  · rename_i i d h1 h2
    cases h
    exact ⟨i, d, h1, h2, rfl, rfl, rfl, rfl⟩
  · cases h

theorem fldsOf_get {P : Program} : ∀ {fs : List Field} {l : List (Nat × Nat × Bool × TypeId)}, fldsOf P fs = some l → ∀ (f : Nat) x, l[f]? = some x → ∃ fd, fs[f]? = some fd ∧ fldOf P fd = some x
  | [], l, h, f, x, hx => by simp [fldsOf] at h; subst h; simp at hx
  | fd :: fs, l, h, f, x, hx => by
    simp only [fldsOf] at h
    split at h
    · rename_i y ys h1 h2
      cases h
      cases f with
      | zero => simp at hx; subst hx; exact ⟨fd, rfl, h1⟩
      | succ f => simp at hx; simpa using fldsOf_get h2 f x hx
    · cases h

theorem run_info {P : Program} {t : TypeId} {i : TypeInfo} (h : P.info? t = some i) (w : World) : (typeInfo t).run P w = .ok i w := by
  simp [typeInfo, h]
theorem run_size {P : Program} {t : TypeId} {s : Nat} (h : szOf P t = some s) (w : World) : (sizeOf t).run P w = .ok s w := by
  unfold szOf at h
  cases hi : P.info? t with
  | none => simp [hi] at h
  | some i => simp [hi] at h; subst h; simp [sizeOf, run_info hi]
theorem run_aggD {P : Program} {t : TypeId} {d : TypeDesc} (h : P.underlying t = some d) (w : World) : (isAgg t).run P w = .ok (aggD d) w := by
  simp only [isAgg, Sem.run_bind, run_underlying h, Result.andThen_ok]
  cases d <;> rfl

/-- The cells of an object. -/
def PObj.cellsAt : PObj → Option (List PV)
  | .box cs => some cs
  | _ => none

def forceL {α : Type} : List PV → (List PV → α) → α
  | [], k => k []
  | x :: xs, k => forceL xs fun ys => k (x :: ys)
theorem forceL_eq {α : Type} : ∀ (l : List PV) (k : List PV → α), forceL l k = k l
  | [], k => rfl
  | x :: xs, k => by rw [forceL, forceL_eq xs]
def PV.force {α : Type} (p : PV) (k : PV → α) : α :=
  match p with
  | .any => k .any
  | .bool b => k (.bool b)
  | .int kd n => k (.int kd n)
  | .str s => k (.str s)
  | .nilptr => k .nilptr
  | .ptr i off => k (.ptr i off)
  | .eptr kd i e off => k (.eptr kd i e off)
  | .gptr g off => k (.gptr g off)
  | .vptr cs => forceL cs fun cs => k (.vptr cs)
  | .nilsl => k .nilsl
  | .sl xs => k (.sl xs)
  | .msl kd i off len cap => k (.msl kd i off len cap)
  | .nilmap => k .nilmap
  | .map i => k (.map i)
  | .nilfn => k .nilfn
  | .fn f cs => forceL cs fun cs => k (.fn f cs)
  | .bfn f cs => forceL cs fun cs => k (.bfn f cs)
  | .niliface => k .niliface
  | .iface t v => k (.iface t v)
  | .agg cs => forceL cs fun cs => k (.agg cs)
  | .tup cs => forceL cs fun cs => k (.tup cs)
theorem PV.force_eq {α : Type} (p : PV) (k : PV → α) : p.force k = k p := by
  cases p <;> simp [PV.force, forceL_eq]

/-- The part of a row of cells that a type asks for. -/
def part? (agg : Bool) (cs : List PV) (off n : Nat) : Option PV :=
  if agg then (if off + n ≤ cs.length then some (.agg ((cs.drop off).take n)) else none) else cs[off]?

def TK.agg : TK → Bool
  | .strct _ | .arr _ _ _ => true
  | _ => false

def TK.known : TK → Bool
  | .other => false
  | _ => true

def TK.conc : TK → Bool
  | .other | .iface => false
  | _ => true

/-- Whether two pure values of one cell are plainly equal, as '==' has it. -/
def eq1 : PV → PV → Option Bool
  | .bool a, .bool b => some (a == b)
  | .int k a, .int k' b => if k = k' then some (a == b) else none
  | .str a, .str b => some (a == b)
  | _, _ => none

def cmpInt (op : BinOp) (a b : Int) : Option PV :=
  match op with
  | .lss => some (.bool (decide (a < b)))
  | .leq => some (.bool (decide (a ≤ b)))
  | .gtr => some (.bool (decide (a > b)))
  | .geq => some (.bool (decide (a ≥ b)))
  | .eql => some (.bool (a == b))
  | .neq => some (.bool (a != b))
  | _ => none
def cmpStr (op : BinOp) (a b : List UInt8) : Option PV :=
  match op with
  | .eql => some (.bool (a == b))
  | .neq => some (.bool (!(a == b)))
  | _ => none
def cmpOp (op : BinOp) (x y : PV) : Option PV :=
  match x, y with
  | .int k a, .int k' b => if k = k' then cmpInt op a b else none
  | .str a, .str b => cmpStr op a b
  | _, _ => none

def PV.okPart : PV → Bool
  | .any | .tup _ => false
  | _ => true
def fillP (place : Nat → Option (Nat × Nat)) : List PV → List (Nat × PV) → Option (List PV)
  | zero, [] => some zero
  | zero, (i, v) :: rest => match place i with
    | none => none
    | some (off, size) => if v.okPart && v.cells.length == size && decide (off + size ≤ zero.length)
      then fillP place (zero.take off ++ v.cells ++ zero.drop (off + size)) rest else none

def unP (op : UnOp) (x : PV) : Option PV :=
  match op, x with
  | .not, .bool b => some (.bool !b)
  | _, _ => none
def mkFnP (f : Fn) (first caps : List PV) : Option PV :=
  match f, first, caps with
  | .func f, [], caps => some (.fn f caps)
  | .func f, x :: xs, [] => some (.bfn f (x :: xs))
  | _, _, _ => none
def lenP (t : Option TI) (x : PV) : Option PV :=
  match t with
  | some ⟨.arr n _ _, _, _, _⟩ => some (.int .i64 n)
  | some ⟨.str, _, _, _⟩ => match x with
    | .str s => some (.int .i64 s.length)
    | _ => none
  | some ⟨.sl _ _ _, _, _, _⟩ => match x with
    | .nilsl => some (.int .i64 0)
    | .sl xs => some (.int .i64 xs.length)
    | .msl _ _ _ n _ => some (.int .i64 n)
    | _ => none
  | _ => none
def callP (tys : List TI) (c : Callee) (args : List PV) (ts : List TypeId) : Option PV :=
  match c, args, ts with
  | .builtin .len, [x], [t] => lenP tys[t]? x
  | _, _, _ => none
def buildP (ti : Option TI) (parts : List (Nat × PV)) : Option PV :=
  match ti with
  | some ⟨.strct l, _, _, some z⟩ => match fillP (fun i => (l[i]?).map fun x => (x.1, x.2.1)) z parts with
    | some cs => some (.agg cs)
    | none => none
  | some ⟨.arr _ _ s, _, _, some z⟩ => match fillP (fun i => some (i * s, s)) z parts with
    | some cs => some (.agg cs)
    | none => none
  | _ => none

/-- The pure operations: no store is changed, nothing can fail. -/
def pureOp (tys : List TI) (st : List PObj) (env : List PV) : Op → Option PV
  | .move x => some (pe env x)
  | .assign x => some (pe env x)
  | .pick c a b => match pe env c with
    | .bool true => some (pe env a)
    | .bool false => some (pe env b)
    | _ => none
  | .nilCheck x => match pe env x with
    | .ptr i off => some (.ptr i off)
    | .eptr k i e off => some (.eptr k i e off)
    | .vptr cs => some (.vptr cs)
    | .gptr g off => some (.gptr g off)
    | .fn f cs => some (.fn f cs)
    | _ => none
  | .unOp op _ x => unP op (pe env x)
  | .binOp op _ x y _ => cmpOp op (pe env x) (pe env y)
  | .fieldAddr t x f => match tys[t]? with
    | some ⟨.strct l, _, _, _⟩ => match l[f]? with
      | some (o, s, _, _) => if s = 0 then none else match pe env x with
        | .ptr i off => some (.ptr i (off + o))
        | .eptr k i e off => some (.eptr k i e (off + o))
        | .gptr g off => some (.gptr g (off + o))
        | .vptr cs => some (.vptr (cs.drop o))
        | _ => none
      | none => none
    | _ => none
  | .field t x f => match tys[t]? with
    | some ⟨.strct l, _, _, _⟩ => match l[f]? with
      | some (o, s, ag, _) => match pe env x with
        | .agg cs => part? ag cs o s
        | _ => none
      | none => none
    | _ => none
  | .load t x => match tys[t]? with
    | some ti => if ti.tk.known then match pe env x with
      | .ptr i off => match st[i]? with
        | some (.box cs) => part? ti.tk.agg cs off ti.size
        | _ => none
      | .vptr cs => part? ti.tk.agg cs 0 ti.size
      | _ => none
      else none
    | none => none
  | .extract x i => match pe env x with
    | .tup vs => vs[i]?
    | _ => none
  | .makeInterface t x => match tys[t]? with
    | some ti => if ti.tk.conc then some (.iface t (pe env x)) else none
    | none => none
  | .makeFunc f first caps => mkFnP f (first.toList.map (pe env)) (caps.toList.map (pe env))
  | .call c => callP tys c.callee (c.args.toList.map (pe env)) c.argTypes.toList
  | .build t parts => buildP tys[t]? (parts.toList.map fun p => (p.1, pe env p.2))
  | _ => none

section sound
variable {P : Program} {Gl : Glob} {B : Base} {tys : List TI} {A : Nat → Prop} {w : World} {β : List Nat} {env : List PV} {st : List PObj} {tmps : List Value}

theorem Den.bool_inv {b : Bool} {v : Value} (h : Den A w β (.bool b) v) : v = .bool b := by cases h; rfl
theorem Den.int_inv {k : IntKind} {n : Int} {v : Value} (h : Den A w β (.int k n) v) : v = .int k n := by cases h; rfl
theorem Den.str_inv {s : List UInt8} {v : Value} (h : Den A w β (.str s) v) : v = .string ⟨s.toArray⟩ := by cases h; rfl
theorem Den.agg_inv {cs : List PV} {v : Value} (h : Den A w β (.agg cs) v) : ∃ vs : List Value, v = .agg vs.toArray ∧ cs.length = vs.length ∧ ∀ (j : Nat) c v, cs[j]? = some c → vs[j]? = some v → Den A w β c v := by
  cases h with | agg _ _ vs hl hd => exact ⟨vs, rfl, hl, hd⟩
theorem Den.tup_inv {cs : List PV} {v : Value} (h : Den A w β (.tup cs) v) : ∃ vs : List Value, v = .tuple vs.toArray ∧ cs.length = vs.length ∧ ∀ (j : Nat) c v, cs[j]? = some c → vs[j]? = some v → Den A w β c v := by
  cases h with | tup _ _ vs hl hd => exact ⟨vs, rfl, hl, hd⟩
theorem Den.bfn_inv {f : FuncId} {cs : List PV} {v : Value} (h : Den A w β (.bfn f cs) v) : ∃ vs : List Value, v = .func (.func f) vs.toArray #[] ∧ cs.length = vs.length ∧ ∀ (j : Nat) c v, cs[j]? = some c → vs[j]? = some v → Den A w β c v := by
  cases h with | bfn _ _ _ vs hl hd => exact ⟨vs, rfl, hl, hd⟩
theorem Den.fn_inv {f : FuncId} {cs : List PV} {v : Value} (h : Den A w β (.fn f cs) v) : ∃ vs : List Value, v = .func (.func f) #[] vs.toArray ∧ cs.length = vs.length ∧ ∀ (j : Nat) c v, cs[j]? = some c → vs[j]? = some v → Den A w β c v := by
  cases h with | fn _ _ _ vs hl hd => exact ⟨vs, rfl, hl, hd⟩
theorem Den.ptr_inv {i off : Nat} {v : Value} (h : Den A w β (.ptr i off) v) : ∃ b, β[i]? = some b ∧ v = .pointer (some ⟨b, off, none⟩) := by
  cases h with | ptr _ _ _ b hb => exact ⟨b, hb, rfl⟩
theorem Den.eptr_inv {k i e off : Nat} {v : Value} (h : Den A w β (.eptr k i e off) v) : ∃ b, β[i]? = some b ∧ v = .pointer (some ⟨b, e * k + off, none⟩) := by
  cases h with | eptr _ _ _ _ _ b hb => exact ⟨b, hb, rfl⟩
theorem Den.gptr_inv {g off : Nat} {v : Value} (h : Den A w β (.gptr g off) v) : v = .pointer (some ⟨g, off, none⟩) := by cases h; rfl
theorem Den.msl_inv {k i off n cap : Nat} {v : Value} (h : Den A w β (.msl k i off n cap) v) (hc : cap ≠ 0) : ∃ b, β[i]? = some b ∧ v = .slice (some ⟨b, off * k, none⟩) n cap := by
  cases h with
  | msl _ _ _ _ _ _ b hb => exact ⟨b, hb, rfl⟩
  | mslnil => exact (hc rfl).elim
theorem Den.msl_any {k i off n cap : Nat} {v : Value} (h : Den A w β (.msl k i off n cap) v) : ∃ a, v = .slice a n cap := by
  cases h <;> exact ⟨_, rfl⟩
theorem Den.vptr_inv {cs : List PV} {v : Value} (h : Den A w β (.vptr cs) v) : ∃ (b off : Nat) (f : Nat → Value), v = .pointer (some ⟨b, off, none⟩) ∧ A b ∧
    (∀ (j : Nat) c, cs[j]? = some c → w.cell? ⟨b, off + j, none⟩ = some (f j)) ∧ (∀ (j : Nat) c, cs[j]? = some c → Den A w [] c (f j)) := by
  cases h with | vptr _ b off _ f h1 h2 h3 => exact ⟨b, off, f, rfl, h1, h2, h3⟩

theorem addr_add (b off n : Nat) : (⟨b, off, none⟩ : Addr).add n = ⟨b, off + n, none⟩ := by
  unfold Addr.add; split <;> simp_all

theorem Den.lift {p : PV} {v : Value} (h : Den A w [] p v) : Den A w β p v := h.mono (.refl _ _) (Pre.nil _)

/-- A part of a row of cells, read. -/
theorem run_part (cs : List PV) (vs : List Value) (hl : cs.length ≤ vs.length) (hd : ∀ (j : Nat) c v, cs[j]? = some c → vs[j]? = some v → Den A w β c v)
    {t : TypeId} {d : TypeDesc} {s : Nat} (hu : P.underlying t = some d) (hs : szOf P t = some s) {off : Nat} {x : PV} (h : part? (aggD d) cs off s = some x) :
    ∃ v, (Go.part t vs.toArray off).run P w = .ok v w ∧ Den A w β x v := by
  simp only [Go.part, Sem.run_bind, run_aggD hu, Result.andThen_ok]
  unfold part? at h
  cases hag : aggD d with
  | true =>
    rw [hag] at h
    simp only [if_true] at h ⊢
    split at h
    · rename_i hle
      cases h
      simp only [Sem.run_bind, run_size hs, Result.andThen_ok, Sem.run_pure]
      refine ⟨_, rfl, ?_⟩
      rw [List.extract_toArray]
      refine .agg _ _ _ (by simp; omega) ?_
      intro j c v hc hv
      simp only [List.getElem?_take, List.getElem?_drop] at hc
      simp only [List.extract_eq_drop_take', List.getElem?_drop, List.getElem?_take] at hv
      split at hc
      · split at hv
        · exact hd _ c v hc hv
        · cases hv
      · cases hc
    · cases h
  | false =>
    rw [hag] at h
    simp only [Bool.false_eq_true, if_false] at h ⊢
    have hlt : off < vs.length := Nat.lt_of_lt_of_le (List.getElem?_eq_some_iff.1 h).1 hl
    have hv : vs[off]? = some vs[off] := List.getElem?_eq_getElem hlt
    refine ⟨vs[off], ?_, hd off x _ h hv⟩
    simp [hlt]

/-- A variable, loaded out of a row of cells. -/
theorem run_loadVar_cells (cs : List PV) (b base : Nat) (f : Nat → Value) (hc : ∀ (j : Nat) c, cs[j]? = some c → w.cell? ⟨b, base + j, none⟩ = some (f j)) (hd : ∀ (j : Nat) c, cs[j]? = some c → Den A w β c (f j))
    {t : TypeId} {d : TypeDesc} {s : Nat} (hu : P.underlying t = some d) (hs : szOf P t = some s) {off : Nat} {x : PV} (h : part? (aggD d) cs off s = some x) :
    ∃ v, (loadVar t ⟨b, base + off, none⟩).run P w = .ok v w ∧ Den A w β x v := by
  simp only [loadVar, Sem.run_bind, run_aggD hu, Result.andThen_ok]
  unfold part? at h
  cases hag : aggD d with
  | true =>
    rw [hag] at h
    simp only [if_true] at h ⊢
    split at h
    · rename_i hle
      cases h
      have hl := run_loadCells (P := P) w ⟨b, base + off, none⟩ s (fun j => f (off + j)) (fun j hj => by
        rw [addr_add, Nat.add_assoc]
        exact hc (off + j) _ (List.getElem?_eq_getElem (by omega)))
      simp only [Sem.run_bind, run_size hs, Result.andThen_ok, Sem.run_pure, hl]
      refine ⟨_, rfl, .agg _ _ _ (by simp; omega) ?_⟩
      intro j c v hc' hv
      simp only [List.getElem?_take, List.getElem?_drop] at hc'
      simp only [List.getElem?_map] at hv
      split at hc'
      · rename_i hj
        rw [List.getElem?_range hj] at hv
        simp at hv
        subst hv
        exact hd _ _ hc'
      · cases hc'
    · cases h
  | false =>
    rw [hag] at h
    simp only [Bool.false_eq_true, if_false] at h ⊢
    refine ⟨f off, ?_, hd _ _ h⟩
    rw [run_load, hc off x h]

theorem tkOf_strct {d : TypeDesc} {l : List (Nat × Nat × Bool × TypeId)} (h : TK.strct l = tkOf P d) : ∃ fs, d = .struct fs ∧ fldsOf P fs.toList = some l := by
  cases d <;> simp only [tkOf] at h <;> first | (cases h; done) | skip
  case struct fs =>
    refine ⟨fs, rfl, ?_⟩
    split at h
    · cases h; assumption
    · cases h
  all_goals (split at h <;> cases h)
theorem tkOf_arr {d : TypeDesc} {n e s : Nat} (h : TK.arr n e s = tkOf P d) : d = .array n e ∧ szOf P e = some s := by
  cases d <;> simp only [tkOf] at h <;> first | (cases h; done) | skip
  case array n' e' =>
    split at h
    · cases h; exact ⟨rfl, by assumption⟩
    · cases h
  all_goals (split at h <;> cases h)
theorem tkOf_sl {d : TypeDesc} {e s by_ : Nat} (h : TK.sl e s by_ = tkOf P d) : d = .slice e ∧ ∃ i, P.info? e = some i ∧ i.size = s ∧ i.bytes = by_ := by
  cases d <;> simp only [tkOf] at h <;> first | (cases h; done) | skip
  case slice e' =>
    split at h
    · cases h; exact ⟨rfl, _, by assumption, rfl, rfl⟩
    · cases h
  all_goals (split at h <;> cases h)
theorem tkOf_str {d : TypeDesc} (h : TK.str = tkOf P d) : d = .string := by
  cases d <;> simp only [tkOf] at h <;> first | (cases h; done) | rfl | skip
  all_goals (split at h <;> cases h)
theorem tkOf_agg {d : TypeDesc} {k : TK} (h : k = tkOf P d) (ho : ∀ x, k = x → x ≠ .other) : k.agg = aggD d := by
  subst h
  cases d <;> simp only [tkOf] at ho ⊢ <;> first | rfl | skip
  all_goals (split <;> first | rfl | (rename_i h; simp [h] at ho))

theorem obj_cell {b : Nat} {vs : List Value} {T : TypeId} {fr : Nat × Nat} (h : w.heap[b]? = some (.cells vs.toArray T fr)) (j : Nat) : w.cell? ⟨b, j, none⟩ = vs[j]? := by
  simp [World.cell?, h]

theorem cells_den {p : PV} {v : Value} (h : Den A w β p v) (ho : p.okPart = true) :
    ∃ vs : List Value, v.cells = vs.toArray ∧ p.cells.length = vs.length ∧ ∀ (j : Nat) c u, p.cells[j]? = some c → vs[j]? = some u → Den A w β c u := by
  have one : ∀ v, v.cells = #[v] → p.cells = [p] → Den A w β p v →
      ∃ vs : List Value, v.cells = vs.toArray ∧ p.cells.length = vs.length ∧ ∀ (j : Nat) c u, p.cells[j]? = some c → vs[j]? = some u → Den A w β c u := by
    intro v hv hp hd
    refine ⟨[v], hv, by rw [hp]; rfl, ?_⟩
    intro j c u hc hu
    rw [hp] at hc
    cases j with
    | zero => simp at hc hu; subst hc hu; exact hd
    | succ j => simp at hc
  cases h with
  | any => simp [PV.okPart] at ho
  | tup => simp [PV.okPart] at ho
  | agg _ cs vs hl hd => exact ⟨vs, rfl, hl, hd⟩
  | bool => exact one _ rfl rfl (.bool ..)
  | int => exact one _ rfl rfl (.int ..)
  | str => exact one _ rfl rfl (.str ..)
  | nilptr => exact one _ rfl rfl (.nilptr ..)
  | ptr _ _ _ _ h1 => exact one _ rfl rfl (.ptr _ _ _ _ h1)
  | eptr _ _ _ _ _ _ h1 => exact one _ rfl rfl (.eptr _ _ _ _ _ _ h1)
  | gptr => exact one _ rfl rfl (.gptr ..)
  | vptr _ _ _ _ f h1 h2 h3 => exact one _ rfl rfl (.vptr _ _ _ _ f h1 h2 h3)
  | nilsl => exact one _ rfl rfl (.nilsl ..)
  | slnil => exact one _ rfl rfl (.slnil ..)
  | sl _ k _ a cap f h1 h2 h3 h4 h5 h6 => exact one _ rfl rfl (.sl _ k _ a cap f h1 h2 h3 h4 h5 h6)
  | msl _ _ _ _ _ _ _ h1 => exact one _ rfl rfl (.msl _ _ _ _ _ _ _ h1)
  | mslnil => exact one _ rfl rfl (.mslnil ..)
  | nilmap => exact one _ rfl rfl (.nilmap ..)
  | map _ _ _ h1 => exact one _ rfl rfl (.map _ _ _ h1)
  | nilfn => exact one _ rfl rfl (.nilfn ..)
  | fn _ _ _ _ h1 h2 => exact one _ rfl rfl (.fn _ _ _ _ h1 h2)
  | bfn _ _ _ _ h1 h2 => exact one _ rfl rfl (.bfn _ _ _ _ h1 h2)
  | niliface => exact one _ rfl rfl (.niliface ..)
  | iface _ _ _ _ h1 => exact one _ rfl rfl (.iface _ _ _ _ h1)

theorem fold_set (off : Nat) : ∀ (vs : List Value) (n : Nat) (cells : List Value), off + n + vs.length ≤ cells.length →
    (vs.zipIdx n).foldl (fun (cs : Array Value) (x : Value × Nat) => cs.setIfInBounds (off + x.2) x.1) cells.toArray = (cells.take (off + n) ++ vs ++ cells.drop (off + n + vs.length)).toArray
  | [], n, cells, h => by simp
  | v :: vs, n, cells, h => by
    simp only [List.length_cons] at h
    simp only [List.zipIdx_cons, List.foldl_cons, List.setIfInBounds_toArray]
    rw [fold_set off vs (n + 1) (cells.set (off + n) v) (by simp; omega)]
    congr 1
    rw [List.drop_set_of_lt (by omega), ← Nat.add_assoc, List.take_succ_eq_append_getElem (by simp; omega), List.take_set_of_le (Nat.le_refl _)]
    simp [Nat.add_assoc, Nat.add_comm 1]

theorem splice_den {zero cs : List PV} {zs us : List Value} {off : Nat} (hz : zero.length = zs.length) (hc : cs.length = us.length) (hle : off + cs.length ≤ zero.length)
    (h1 : ∀ (j : Nat) c v, zero[j]? = some c → zs[j]? = some v → Den A w β c v) (h2 : ∀ (j : Nat) c v, cs[j]? = some c → us[j]? = some v → Den A w β c v) :
    ∀ (j : Nat) c v, (zero.take off ++ cs ++ zero.drop (off + cs.length))[j]? = some c → (zs.take off ++ us ++ zs.drop (off + us.length))[j]? = some v → Den A w β c v := by
  intro j c v hcj hvj
  by_cases hj : j < off
  · rw [List.append_assoc, List.getElem?_append_left (by simp; omega), List.getElem?_take, if_pos hj] at hcj
    rw [List.append_assoc, List.getElem?_append_left (by simp; omega), List.getElem?_take, if_pos hj] at hvj
    exact h1 j c v hcj hvj
  · by_cases hj2 : j < off + cs.length
    · rw [List.getElem?_append_left (by simp; omega), List.getElem?_append_right (by simp; omega)] at hcj
      rw [List.getElem?_append_left (by simp; omega), List.getElem?_append_right (by simp; omega)] at hvj
      simp only [List.length_take, Nat.min_eq_left (show off ≤ zero.length by omega)] at hcj
      simp only [List.length_take, Nat.min_eq_left (show off ≤ zs.length by omega)] at hvj
      exact h2 _ c v hcj hvj
    · rw [List.getElem?_append_right (by simp; omega), List.getElem?_drop] at hcj
      rw [List.getElem?_append_right (by simp; omega), List.getElem?_drop] at hvj
      simp only [List.length_append, List.length_take, Nat.min_eq_left (show off ≤ zero.length by omega)] at hcj
      simp only [List.length_append, List.length_take, Nat.min_eq_left (show off ≤ zs.length by omega)] at hvj
      rw [show off + cs.length + (j - (off + cs.length)) = j by omega] at hcj
      rw [show off + us.length + (j - (off + us.length)) = j by omega] at hvj
      exact h1 j c v hcj hvj

theorem fill_sound (place : Nat → Option (Nat × Nat)) : ∀ (ps : List (Nat × PV)) (qs : List (Nat × Value)) (zero : List PV) (zs : List Value) (cs : List PV),
    ps.length = qs.length → (∀ (j : Nat) p q, ps[j]? = some p → qs[j]? = some q → p.1 = q.1 ∧ Den A w β p.2 q.2) →
    zero.length = zs.length → (∀ (j : Nat) c v, zero[j]? = some c → zs[j]? = some v → Den A w β c v) → fillP place zero ps = some cs →
    ∃ vs : List Value, Instr.fill place zs.toArray qs = some vs.toArray ∧ cs.length = vs.length ∧ ∀ (j : Nat) c v, cs[j]? = some c → vs[j]? = some v → Den A w β c v
  | [], [], zero, zs, cs, _, _, hz, hd, h => by
    simp only [fillP] at h; cases h; exact ⟨zs, rfl, hz, hd⟩
  | (i, p) :: ps, (i', v) :: qs, zero, zs, cs, hl, hpq, hz, hd, h => by
    obtain ⟨hi, hpv⟩ := hpq 0 _ _ rfl rfl
    simp only at hi hpv
    subst hi
    simp only [fillP] at h
    split at h
    · cases h
    · rename_i off size hpl
      split at h
      · rename_i hc
        simp only [Bool.and_eq_true, beq_iff_eq, decide_eq_true_eq] at hc
        obtain ⟨⟨ho, hs⟩, hle⟩ := hc
        obtain ⟨us, hu1, hu2, hu3⟩ := cells_den hpv ho
        subst hs
        obtain ⟨vs, hv1, hv2, hv3⟩ := fill_sound place ps qs _ (zs.take off ++ us ++ zs.drop (off + us.length)) cs (by simpa using hl) (fun j p q hp hq => hpq (j + 1) p q (by simpa using hp) (by simpa using hq))
          (by simp; omega) (splice_den hz hu2 hle hd hu3) h
        refine ⟨vs, ?_, hv2, hv3⟩
        unfold Instr.fill
        simp only [hpl]
        rw [if_neg (by simp [hu1]; omega), ← hv1, hu1]
        congr 1
        have := fold_set off us 0 zs (by omega)
        rw [← Array.foldl_toList]
        simpa using this
      · cases h
  | [], _ :: _, _, _, _, hl, _, _, _, _ => by simp at hl
  | _ :: _, [], _, _, _, hl, _, _, _, _ => by simp at hl

theorem zero_den {v : Value} (j : Nat) (c : PV) (u : Value) (hc : (v.cells.toList.map cv)[j]? = some c) (hu : v.cells.toList[j]? = some u) : Den A w β c u := by
  simp only [List.getElem?_map, hu] at hc
  cases hc
  exact den_cv ..

theorem run_mapM_flds {fs : List Field} {l : List (Nat × Nat × Bool × TypeId)} (h : fldsOf P fs = some l) (w : World) :
    (fs.mapM (fun f => do pure (f.offset, ← sizeOf f.type) : Field → Sem (Nat × Nat))).run P w = .ok (l.map fun x => (x.1, x.2.1)) w := by
  induction fs generalizing l with
  | nil => simp [fldsOf] at h; subst h; simp
  | cons f fs ih =>
    simp only [fldsOf] at h
    split at h
    · rename_i y ys h1 h2
      cases h
      unfold fldOf at h1
      split at h1
      · rename_i s d hs hd
        cases h1
        simp only [List.mapM_cons, Sem.run_bind, run_size hs, Result.andThen_ok, Sem.run_pure, ih h2, List.map_cons]
      · cases h1
    · cases h

theorem pureOp_sound (hT : Tys P tys) {o : Oper} {x : PV} (h : pureOp tys st env o.op = some x) (hi : Inv Gl B A w β st) (he : EnvRel A w β env tmps) :
    ∃ v, (execOp (⟨tmps.toArray, []⟩ : Act).eval o).run P w = .ok (.value v) w ∧ Den A w β x v := by
  obtain ⟨dst, op, type, pos, after, guard⟩ := o
  have ev := fun y => he.eval [] y
  generalize (⟨tmps.toArray, []⟩ : Act).eval = ρ at ev
  cases op <;> simp only [pureOp] at h <;> first | (cases h; done) | skip
  case move y => cases h; exact ⟨ρ y, by simp [execOp], ev y⟩
  case assign y => cases h; exact ⟨ρ y, by simp [execOp], ev y⟩
  case pick c a b =>
    have hc := ev c
    split at h
    · rename_i hb; rw [hb] at hc; cases h; exact ⟨ρ a, by simp [execOp, hc.bool_inv, asBool], ev a⟩
    · rename_i hb; rw [hb] at hc; cases h; exact ⟨ρ b, by simp [execOp, hc.bool_inv, asBool], ev b⟩
    · cases h
  case nilCheck y =>
    have hy := ev y
    split at h
    · rename_i hb; rw [hb] at hy; cases h; obtain ⟨b, hb, hv⟩ := hy.ptr_inv; exact ⟨_, by simp only [execOp, hv, Sem.run_pure], .ptr _ _ _ _ hb⟩
    · rename_i hb; rw [hb] at hy; cases h; obtain ⟨b, hb, hv⟩ := hy.eptr_inv; exact ⟨_, by simp only [execOp, hv, Sem.run_pure], .eptr _ _ _ _ _ _ hb⟩
    · rename_i hb; rw [hb] at hy; cases h; obtain ⟨b, off, f, hv, _⟩ := hy.vptr_inv; rw [hv] at hy; exact ⟨_, by simp only [execOp, hv, Sem.run_pure], hy⟩
    · rename_i hb; rw [hb] at hy; cases h; have hv := hy.gptr_inv; rw [hv] at hy; exact ⟨_, by simp only [execOp, hv, Sem.run_pure], hy⟩
    · rename_i hb; rw [hb] at hy; cases h; obtain ⟨vs, hv, _⟩ := hy.fn_inv; rw [hv] at hy; exact ⟨_, by simp only [execOp, hv, Sem.run_pure], hy⟩
    · cases h
  case binOp op T a b T' =>
    have ha := ev a
    have hb := ev b
    unfold cmpOp at h
    split at h
    · rename_i k x1 k' x2 h1 h2
      rw [h1] at ha; rw [h2] at hb
      split at h
      · rename_i hk; subst hk
        unfold cmpInt at h
        simp only [execOp, Sem.run_bind, ha.int_inv, hb.int_inv]
        split at h <;> cases h <;> exact ⟨_, by simp [eqGuard, binOp, Op.intCmp], .bool ..⟩
      · cases h
    · rename_i x1 x2 h1 h2
      rw [h1] at ha; rw [h2] at hb
      unfold cmpStr at h
      simp only [execOp, Sem.run_bind, ha.str_inv, hb.str_inv]
      split at h <;> cases h <;> exact ⟨_, by simp [eqGuard, binOp, Op.stringOp, ByteArray.toList_eq], .bool ..⟩
    · cases h
  case unOp op T a =>
    have ha := ev a
    unfold unP at h
    split at h
    · rename_i b hb; rw [hb] at ha; cases h
      exact ⟨_, by simp only [execOp, ha.bool_inv, Op.unary, Sem.run_bind, Sem.run_pure, Result.andThen_ok], .bool ..⟩
    · cases h
  case fieldAddr T a f =>
    have ha := ev a
    split at h
    · rename_i l s1 s2 s3 ht
      obtain ⟨i, d, hi1, hu, htk, _⟩ := tyOf_spec (hT _ _ ht)
      obtain ⟨fs, rfl, hfs⟩ := tkOf_strct htk
      split at h
      · rename_i o s ag ft hf
        obtain ⟨fd, hfd, hfo⟩ := fldsOf_get hfs _ _ hf
        have hfd' : fs[f]? = some fd := by simpa using hfd
        unfold fldOf at hfo
        split at hfo
        · rename_i s' d' hs' hd'
          cases hfo
          split at h
          · cases h
          · rename_i hs0
            have key : ∀ a0 : Addr, ρ a = .pointer (some a0) → (execOp ρ ⟨dst, .fieldAddr T a f, type, pos, after, guard⟩).run P w = .ok (.value (.pointer (some (a0.add fd.offset)))) w := by
              intro a0 h0
              simp only [execOp, Instr.fieldAt, Sem.run_bind, run_underlying hu, Result.andThen_ok, hfd', h0, Instr.sureAddr, Sem.run_pure, fieldPlace, run_size hs', if_neg hs0]
            split at h
            · rename_i hb; rw [hb] at ha; cases h; obtain ⟨b, hb, hv⟩ := ha.ptr_inv
              exact ⟨_, key _ hv, by rw [addr_add]; exact .ptr _ _ _ _ hb⟩
            · rename_i hb; rw [hb] at ha; cases h; obtain ⟨b, hb, hv⟩ := ha.eptr_inv
              exact ⟨_, key _ hv, by rw [addr_add, Nat.add_assoc]; exact .eptr _ _ _ _ _ _ hb⟩
            · rename_i hb; rw [hb] at ha; cases h
              exact ⟨_, key _ ha.gptr_inv, by rw [addr_add]; exact .gptr _ _ _⟩
            · rename_i hb; rw [hb] at ha; cases h; obtain ⟨b, off, f', hv, h1, h2, h3⟩ := ha.vptr_inv
              refine ⟨_, key _ hv, ?_⟩
              rw [addr_add]
              refine .vptr _ _ _ _ (fun j => f' (fd.offset + j)) h1 (fun j c hc => ?_) (fun j c hc => ?_)
              · rw [Nat.add_assoc]; exact h2 _ c (by simpa using hc)
              · exact h3 _ c (by simpa using hc)
            · cases h
        · cases hfo
      · cases h
    · cases h
  case field T a f =>
    have ha := ev a
    split at h
    · rename_i l s1 s2 s3 ht
      obtain ⟨i, d, hi1, hu, htk, _⟩ := tyOf_spec (hT _ _ ht)
      obtain ⟨fs, rfl, hfs⟩ := tkOf_strct htk
      split at h
      · rename_i o s ag ft hf
        obtain ⟨fd, hfd, hfo⟩ := fldsOf_get hfs _ _ hf
        have hfd' : fs[f]? = some fd := by simpa using hfd
        unfold fldOf at hfo
        split at hfo
        · rename_i s' d' hs' hd'
          cases hfo
          split at h
          · rename_i cs hb; rw [hb] at ha
            obtain ⟨vs, hv, hl, hd⟩ := ha.agg_inv
            obtain ⟨v, hr, hx⟩ := run_part (P := P) cs vs (Nat.le_of_eq hl) hd hd' hs' h
            exact ⟨v, by simp only [execOp, Instr.field, Sem.run_bind, run_underlying hu, Result.andThen_ok, hfd', hv, asAgg, Sem.run_pure, hr], hx⟩
          · cases h
        · cases hfo
      · cases h
    · cases h
  case load T a =>
    have ha := ev a
    split at h
    · rename_i ti ht
      obtain ⟨i, d, hi1, hu, htk, hsz, _⟩ := tyOf_spec (hT _ _ ht)
      split at h
      · rename_i hkn
        have hag : ti.tk.agg = aggD d := tkOf_agg htk (fun x hx => by subst hx; intro h0; rw [h0] at hkn; cases hkn)
        have hs : szOf P T = some ti.size := by simp [szOf, hi1, hsz]
        rw [hag] at h
        split at h
        · rename_i i off hb; rw [hb] at ha
          obtain ⟨b, hb, hv⟩ := ha.ptr_inv
          split at h
          · rename_i cs hst
            obtain ⟨vs, T', fr, h1, h2, h3, h4⟩ := hi.obj _ _ _ hb hst
            obtain ⟨v, hr, hx⟩ := run_loadVar_cells (P := P) (w := w) (A := A) (β := β) cs b 0 (fun j => vs.getD j undef) (fun j c hc => by
                have hlt : j < vs.length := by rw [h2]; exact (List.getElem?_eq_some_iff.1 hc).1
                rw [Nat.zero_add, obj_cell h1]; simp [List.getElem?_eq_getElem hlt])
              (fun j c hc => by
                have hlt : j < vs.length := by rw [h2]; exact (List.getElem?_eq_some_iff.1 hc).1
                exact h4 j c _ hc (by simp [List.getElem?_eq_getElem hlt])) hu hs h
            rw [Nat.zero_add] at hr
            exact ⟨v, by simp only [execOp, Instr.loadAt, Sem.run_bind, hv, Instr.sureAddr, Sem.run_pure, Result.andThen_ok, hr], hx⟩
          · cases h
        · rename_i cs hb; rw [hb] at ha
          obtain ⟨b, off, f', hv, h1, h2, h3⟩ := ha.vptr_inv
          obtain ⟨v, hr, hx⟩ := run_loadVar_cells (P := P) (w := w) (A := A) (β := β) cs b off f' h2 (fun j c hc => (h3 j c hc).lift) hu hs h
          rw [Nat.add_zero] at hr
          exact ⟨v, by simp only [execOp, Instr.loadAt, Sem.run_bind, hv, Instr.sureAddr, Sem.run_pure, Result.andThen_ok, hr], hx⟩
        · cases h
      · cases h
    · cases h
  case extract a i =>
    have ha := ev a
    split at h
    · rename_i vs hb; rw [hb] at ha
      obtain ⟨us, hv, hl, hd⟩ := ha.tup_inv
      have hlt : i < us.length := by rw [← hl]; exact (List.getElem?_eq_some_iff.1 h).1
      have hu : us[i]? = some us[i] := List.getElem?_eq_getElem hlt
      exact ⟨us[i], by simp [execOp, Instr.extract, hv, hlt], hd i x _ h hu⟩
    · cases h
  case makeInterface T a =>
    split at h
    · rename_i ti ht
      obtain ⟨i, d, hi1, hu, htk, _⟩ := tyOf_spec (hT _ _ ht)
      split at h
      · rename_i hcn
        cases h
        refine ⟨_, ?_, .iface _ _ _ _ (ev a)⟩
        simp only [execOp, Instr.makeInterface, Sem.run_bind, run_underlying hu, Result.andThen_ok]
        cases d <;> first | rfl | (rw [htk] at hcn; simp [tkOf, TK.conc] at hcn)
      · cases h
    · cases h
  case makeFunc f first caps =>
    have lst : ∀ (l : Array Operand), (l.toList.map (pe env)).length = (l.toList.map ρ).length ∧ ∀ (j : Nat) c v, (l.toList.map (pe env))[j]? = some c → (l.toList.map ρ)[j]? = some v → Den A w β c v := fun l => ⟨by simp, fun j c v hc hv => by
      simp only [List.getElem?_map] at hc hv
      cases hx : l.toList[j]? with
      | none => rw [hx] at hc; cases hc
      | some y => rw [hx] at hc hv; cases hc; cases hv; exact ev y⟩
    have e : ∀ l : Array Operand, l.map ρ = (l.toList.map ρ).toArray := fun l => Array.ext' (by simp)
    unfold mkFnP at h
    split at h
    · rename_i f' hf'
      cases h
      have hf : first = #[] := by simpa using hf'
      subst hf
      obtain ⟨g1, g2⟩ := lst caps
      refine ⟨.func (.func f') #[] (caps.toList.map ρ).toArray, ?_, .fn _ _ _ _ g1 g2⟩
      simp only [execOp, Instr.makeFunc, Sem.run_bind, Sem.run_pure, Result.andThen_ok]
      rw [e caps]
      simp
    · rename_i f' x xs hxs hcs
      cases h
      have hc0 : caps = #[] := by simpa using hcs
      subst hc0
      obtain ⟨g1, g2⟩ := lst first
      rw [hxs] at g1 g2
      refine ⟨.func (.func f') (first.toList.map ρ).toArray #[], ?_, .bfn _ _ _ _ g1 g2⟩
      simp only [execOp, Instr.makeFunc, Sem.run_bind, Sem.run_pure, Result.andThen_ok]
      rw [e first]
      simp
    · cases h
  case call c =>
    obtain ⟨callee, args, ats⟩ := c
    unfold callP at h
    simp only at h
    split at h
    · rename_i x0 t hargs hts
      obtain ⟨l⟩ := args
      obtain ⟨l'⟩ := ats
      simp only at hargs hts
      match l, hargs with
      | [y], hy =>
        simp only [List.map_cons, List.map_nil, List.cons.injEq, and_true] at hy
        subst hts
        have ha := ev y
        rw [hy] at ha
        have key : ∀ v, (Builtin.len_ #[t] type #[ρ y]).run P w = .ok v w → (execOp ρ ⟨dst, .call ⟨.builtin .len, [y].toArray, [t].toArray⟩, type, pos, after, guard⟩).run P w = .ok (.value v) w := by
          intro v hv
          simp only [execOp, Go.resolve, Sem.run_bind, Sem.run_pure, Result.andThen_ok, invoke, builtin]
          simp [hv]
        unfold lenP at h
        split at h
        · rename_i n e s' s1 s2 s3 ht
          cases h
          obtain ⟨i, d, hi1, hu, htk, _⟩ := tyOf_spec (hT _ _ ht)
          obtain ⟨rfl, _⟩ := tkOf_arr htk
          refine ⟨_, key _ ?_, .int ..⟩
          simp [Builtin.len_, run_underlying hu]; rfl
        · rename_i s1 s2 s3 ht
          obtain ⟨i, d, hi1, hu, htk, _⟩ := tyOf_spec (hT _ _ ht)
          have := tkOf_str htk
          subst this
          split at h
          · cases h
            refine ⟨_, key _ ?_, .int ..⟩
            rw [ha.str_inv]; simp only [Builtin.len_, List.getElem?_toArray, List.getElem?_cons_zero, Sem.run_bind, run_underlying hu, Result.andThen_ok]; rfl
          · cases h
        · rename_i e es bs s1 s2 s3 ht
          obtain ⟨i, d, hi1, hu, htk, _⟩ := tyOf_spec (hT _ _ ht)
          obtain ⟨rfl, _⟩ := tkOf_sl htk
          split at h
          · cases h
            refine ⟨_, key _ ?_, .int ..⟩
            generalize ρ y = v at ha
            cases ha
            simp [Builtin.len_, run_underlying hu, goInt]
          · cases h
            refine ⟨_, key _ ?_, .int ..⟩
            generalize ρ y = v at ha
            cases ha with
            | slnil => simp [Builtin.len_, run_underlying hu, goInt]
            | sl _ k _ a cap f => simp [Builtin.len_, run_underlying hu, goInt]
          · cases h
            refine ⟨_, key _ ?_, .int ..⟩
            obtain ⟨b, hv⟩ := ha.msl_any
            simp [Builtin.len_, run_underlying hu, goInt, hv]
          · cases h
        · cases h
    · cases h
  case build T parts =>
    have hq : ∀ (j : Nat) (p : Nat × PV) (q : Nat × Value), (parts.toList.map fun p => (p.1, pe env p.2))[j]? = some p → (parts.toList.map fun p => (p.1, ρ p.2))[j]? = some q → p.1 = q.1 ∧ Den A w β p.2 q.2 := by
      intro j p q hp hq
      simp only [List.getElem?_map] at hp hq
      cases hx : parts.toList[j]? with
      | none => rw [hx] at hp; cases hp
      | some y => rw [hx] at hp hq; cases hp; cases hq; exact ⟨rfl, ev _⟩
    have run : ∀ (zv : Value) (i : TypeInfo), P.info? T = some i → i.zero = some zv → (zeroValue T).run P w = .ok zv w := by
      intro zv i h1 h2
      simp [zeroValue, run_info h1, h2]
    have hmap : (parts.map fun x => (x.1, ρ x.2)).toList = parts.toList.map fun p => (p.1, ρ p.2) := by simp
    unfold buildP at h
    split at h
    · rename_i l s1 s2 z ht
      obtain ⟨i, d, hi1, hu, htk, hsz, hby, hz⟩ := tyOf_spec (hT _ _ ht)
      obtain ⟨fs, rfl, hfs⟩ := tkOf_strct htk
      simp only at hz
      split at h
      · rename_i cs hf
        cases h
        cases hzv : i.zero with
        | none => rw [hzv] at hz; cases hz
        | some zv =>
          rw [hzv] at hz
          cases hz
          obtain ⟨vs, hv1, hv2, hv3⟩ := fill_sound (A := A) (w := w) (β := β) _ _ _ _ zv.cells.toList cs (by simp) hq (by simp) (fun j c u h1 h2 => zero_den j c u h1 h2) hf
          refine ⟨.agg vs.toArray, ?_, .agg _ _ _ hv2 hv3⟩
          have hm := run_mapM_flds hfs w
          have hm' : (fs.mapM (fun f => do pure (f.offset, ← sizeOf f.type) : Field → Sem (Nat × Nat))).run P w = .ok (l.map fun x => (x.1, x.2.1)).toArray w := by
            rw [Array.mapM_eq_mapM_toList, Sem.run_map, hm]; rfl
          simp only [execOp, Instr.build, Sem.run_bind, run zv i hi1 hzv, run_underlying hu, Result.andThen_ok, hm', hmap]
          have hpl : (fun x : Nat => (l.map fun x => (x.1, x.2.1)).toArray[x]?) = fun i => (l[i]?).map fun x => (x.1, x.2.1) := by
            funext x; simp
          rw [hpl]
          simp only [Array.toArray_toList] at hv1
          rw [hv1]
          rfl
      · cases h
    · rename_i n e s s1 s2 z ht
      obtain ⟨i, d, hi1, hu, htk, hsz, hby, hz⟩ := tyOf_spec (hT _ _ ht)
      obtain ⟨rfl, hse⟩ := tkOf_arr htk
      simp only at hz
      split at h
      · rename_i cs hf
        cases h
        cases hzv : i.zero with
        | none => rw [hzv] at hz; cases hz
        | some zv =>
          rw [hzv] at hz
          cases hz
          obtain ⟨vs, hv1, hv2, hv3⟩ := fill_sound (A := A) (w := w) (β := β) _ _ _ _ zv.cells.toList cs (by simp) hq (by simp) (fun j c u h1 h2 => zero_den j c u h1 h2) hf
          refine ⟨.agg vs.toArray, ?_, .agg _ _ _ hv2 hv3⟩
          simp only [execOp, Instr.build, Sem.run_bind, run zv i hi1 hzv, run_underlying hu, Result.andThen_ok, run_size hse, hmap]
          simp only [Array.toArray_toList] at hv1
          rw [hv1]
          rfl
      · cases h
    · cases h
end sound
end Go.Pw
namespace Go.Pw
open Go

/-- What an operation leaves behind: its value in its slot, a store, and nothing else changed. -/
def OpOut (Gl : Glob) (B : Base) (dst : Option Tmp) (tmps : List Value) (A : Nat → Prop) (w : World) (β : List Nat) (K : PV → List PObj → Prop) (a' : Act) (w' : World) : Prop :=
  ∃ v x st' A' β', a' = (⟨tmps.toArray, []⟩ : Act).put dst v ∧ K x st' ∧ Den A' w' β' x v ∧ Inv Gl B A' w' β' st' ∧ Ext A w A' w' ∧ Pre β β'

def OpP (P : Program) (Gl : Glob) (B : Base) (o : Oper) (env : List PV) (st : List PObj) (K : PV → List PObj → Prop) : Prop :=
  ∀ A w β tmps Q, Inv Gl B A w β st → EnvRel A w β env tmps → o.wp P ⟨tmps.toArray, []⟩ w (OpOut Gl B o.dst tmps A w β K) Q

def PWL (P : Program) (Gl : Glob) (B : Base) (ops : Array Oper) (rest : List Oper) (env : List PV) (st : List PObj) (Q : Post) : Prop :=
  ∀ A w β tmps, Inv Gl B A w β st → EnvRel A w β env tmps → wpList P ops (Real Gl B Q) rest ⟨tmps.toArray, []⟩ w

def putE (env : List PV) (dst : Option Tmp) (x : PV) : List PV :=
  match dst with
  | some d => env.set d x
  | none => env

def putV (tmps : List Value) (dst : Option Tmp) (v : Value) : List Value :=
  match dst with
  | some d => tmps.set d v
  | none => tmps
theorem putV_len (tmps : List Value) (dst : Option Tmp) (v : Value) : (putV tmps dst v).length = tmps.length := by cases dst <;> simp [putV]

section rules
variable {P : Program} {Gl : Glob} {B : Base} {tys : List TI} {env : List PV} {st : List PObj} {Q : Post} {ops : Array Oper} {rest : List Oper} {o : Oper}

theorem put_tmps (tmps : List Value) (dst : Option Tmp) (v : Value) : (⟨tmps.toArray, []⟩ : Act).put dst v = ⟨(putV tmps dst v).toArray, []⟩ := by
  cases dst <;> simp [Act.put, putV]

theorem EnvRel.put {A : Nat → Prop} {w : World} {β : List Nat} {tmps : List Value} (h : EnvRel A w β env tmps) (dst : Option Tmp) {x : PV} {v : Value} (hx : Den A w β x v) :
    EnvRel A w β (putE env dst x) (putV tmps dst v) := by
  cases dst with
  | none => exact h
  | some d =>
    refine ⟨by simp [putE, putV, h.1], fun i p u hp hu => ?_⟩
    simp only [putE] at hp
    simp only [putV] at hu
    rw [List.getElem?_set] at hp hu
    split at hp
    · rename_i hd
      subst hd
      split at hp
      · rw [if_pos rfl] at hu
        split at hu
        · cases hp; cases hu; exact hx
        · cases hu
      · cases hp
    · rename_i hd
      rw [if_neg hd] at hu
      exact h.2 i p u hp hu

theorem pw_region {id : Nat} {l : List Oper} (h : PWL P Gl B l.toArray l env st Q) : PW P Gl B (.region id l.toArray false) env st Q :=
  fun A w β tmps hi he => wp_region_lit (h A w β tmps hi he)

theorem pl_nil (h : Q .normal env st) : PWL P Gl B ops [] env st Q :=
  fun A _w β tmps hi he => wpList_nil ⟨env, st, A, β, tmps, rfl, h, hi, he⟩

theorem pl_run (hw : ∀ tmps : List Value, (∀ A w β, EnvRel A w β env tmps → Region.wanted o (yielded ops tmps.toArray) = true))
    (h : OpP P Gl B o env st fun x st' => PWL P Gl B ops rest (putE env o.dst x) st' Q) : PWL P Gl B ops (o :: rest) env st Q := fun A w β tmps hi he => by
  unfold wpList
  rw [if_pos (hw tmps A w β he)]
  refine .inl (Oper.wp_mono ?_ (h A w β tmps _ hi he))
  rintro a' w' ⟨v, x, st', A', β', rfl, hK, hd, hi', hx, hβ⟩
  rw [put_tmps]
  exact hK A' w' β' _ hi' ((he.mono hx hβ).put o.dst hd)

theorem pl_op (hg : o.guard = none) (h : OpP P Gl B o env st fun x st' => PWL P Gl B ops rest (putE env o.dst x) st' Q) : PWL P Gl B ops (o :: rest) env st Q :=
  pl_run (fun tmps _ _ _ _ => by simp [Region.wanted, hg]) h

/-- What the guard of an operation reads as. -/
def yieldE (ops : Array Oper) (env : List PV) (j : Nat) : Option Bool :=
  match ((ops[j]?).bind (·.dst)).bind (env[·]?) with
  | some (.bool b) => some b
  | _ => none

theorem yield_of {A : Nat → Prop} {w : World} {β : List Nat} {tmps : List Value} (he : EnvRel A w β env tmps) {j : Nat} {b : Bool} (h : yieldE ops env j = some b) : yielded ops tmps.toArray j = some b := by
  unfold yieldE at h
  unfold yielded
  cases hd : (ops[j]?).bind (·.dst) with
  | none => simp [hd] at h
  | some d =>
    simp only [hd, Option.bind_some] at h ⊢
    cases hp : env[d]? with
    | none => simp [hp] at h
    | some p =>
      rw [hp] at h
      have hlt : d < tmps.length := by rw [← he.1]; exact (List.getElem?_eq_some_iff.1 hp).1
      have hv : tmps[d]? = some tmps[d] := List.getElem?_eq_getElem hlt
      have hden := he.2 d p _ hp hv
      cases p <;> simp only at h <;> first | (cases h; done) | skip
      cases h
      simp only [List.getElem?_toArray, hv, hden.bool_inv]

theorem den_undef (A : Nat → Prop) (w : World) (β : List Nat) : Den A w β (.tup []) undef := .tup β [] [] rfl (by intro j c v h; simp at h)

/-- The guard's operation did not run. -/
def noYield (ops : Array Oper) (env : List PV) (j : Nat) : Bool :=
  match ((ops[j]?).bind (·.dst)).bind (env[·]?) with
  | some (.tup []) => true
  | _ => false
theorem noYield_of {A : Nat → Prop} {w : World} {β : List Nat} {tmps : List Value} (he : EnvRel A w β env tmps) {j : Nat} (h : noYield ops env j = true) : yielded ops tmps.toArray j = none := by
  unfold noYield at h
  unfold yielded
  cases hd : (ops[j]?).bind (·.dst) with
  | none => simp [hd] at h
  | some d =>
    simp only [hd, Option.bind_some] at h ⊢
    cases hp : env[d]? with
    | none => simp [hp] at h
    | some p =>
      rw [hp] at h
      have hlt : d < tmps.length := by rw [← he.1]; exact (List.getElem?_eq_some_iff.1 hp).1
      have hv : tmps[d]? = some tmps[d] := List.getElem?_eq_getElem hlt
      have hden := he.2 d p _ hp hv
      simp only [List.getElem?_toArray, hv]
      split at h
      · rename_i heq
        cases heq
        generalize tmps[d] = v at hden
        cases hden
        rfl
      · cases h

theorem pl_on {j : Nat} {want : Bool} (hg : o.guard = some (j, want)) (hy : yieldE ops env j = some want) (h : OpP P Gl B o env st fun x st' => PWL P Gl B ops rest (putE env o.dst x) st' Q) :
    PWL P Gl B ops (o :: rest) env st Q :=
  pl_run (fun tmps _ _ _ he => by simp [Region.wanted, hg, yield_of he hy]) h

theorem pl_off {j : Nat} {want b : Bool} (hg : o.guard = some (j, want)) (hy : yieldE ops env j = some b) (hb : (b == want) = false) (h : PWL P Gl B ops rest (putE env o.dst (.tup [])) st Q) :
    PWL P Gl B ops (o :: rest) env st Q := fun A w β tmps hi he => by
  unfold wpList
  rw [if_neg (by
    simp only [Region.wanted, hg, yield_of he hy]
    simp only [beq_eq_false_iff_ne, ne_eq] at hb
    simpa using hb)]
  rw [put_tmps]
  exact h A w β _ hi (he.put o.dst (den_undef ..))

theorem pl_offN {j : Nat} {want : Bool} (hg : o.guard = some (j, want)) (hy : noYield ops env j = true) (h : PWL P Gl B ops rest (putE env o.dst (.tup [])) st Q) :
    PWL P Gl B ops (o :: rest) env st Q := fun A w β tmps hi he => by
  unfold wpList
  rw [if_neg (by
    simp only [Region.wanted, hg, noYield_of he hy]
    simp)]
  rw [put_tmps]
  exact h A w β _ hi (he.put o.dst (den_undef ..))

/-- An operation that yields a value and leaves the world alone. -/
theorem op_val {K : PV → List PObj → Prop} {x : PV} (h : ∀ A w β tmps, Inv Gl B A w β st → EnvRel A w β env tmps → ∃ v, (execOp (⟨tmps.toArray, []⟩ : Act).eval o).run P w = .ok (.value v) w ∧ Den A w β x v)
    (hK : K x st) : OpP P Gl B o env st K := fun A w β tmps Q hi he => by
  obtain ⟨v, hr, hd⟩ := h A w β tmps hi he
  unfold Oper.wp
  rw [hr]
  exact ⟨v, x, st, A, β, rfl, hK, hd, hi, .refl _ _, .refl _⟩

/-- An operation's value hangs on its operands alone. -/
def OpV (P : Program) (Gl : Glob) (B : Base) (o : Oper) (env : List PV) (x : PV) : Prop :=
  ∀ st A w β tmps, Inv Gl B A w β st → EnvRel A w β env tmps → ∃ v, (execOp (⟨tmps.toArray, []⟩ : Act).eval o).run P w = .ok (.value v) w ∧ Den A w β x v
theorem op_of {K : PV → List PObj → Prop} {x : PV} (h : OpV P Gl B o env x) (hK : K x st) : OpP P Gl B o env st K := op_val (fun A w β tmps hi he => h st A w β tmps hi he) hK

def pureStep (tys : List TI) (st : List PObj) (o : Oper) (env : List PV) : Option (List PV) :=
  match o.guard with
  | none => match pureOp tys st env o.op with
    | some x => x.force fun x => match o.dst with
      | some d => forceL (env.set d x) some
      | none => some env
    | none => none
  | some _ => none
def pureOn (tys : List TI) (st : List PObj) (ops : Array Oper) (o : Oper) (env : List PV) : Option (List PV) :=
  match o.guard with
  | some (j, want) => match yieldE ops env j with
    | some b => match b == want with
      | true => match pureOp tys st env o.op with
        | some x => x.force fun x => match o.dst with
          | some d => forceL (env.set d x) some
          | none => some env
        | none => none
      | false => match o.dst with
        | some d => forceL (env.set d (.tup [])) some
        | none => some env
    | none => match noYield ops env j with
      | true => match o.dst with
        | some d => forceL (env.set d (.tup [])) some
        | none => some env
      | false => none
  | none => none

theorem pl_pure {env' : List PV} (hT : Tys P tys) (h : pureStep tys st o env = some env') (hr : PWL P Gl B ops rest env' st Q) : PWL P Gl B ops (o :: rest) env st Q := by
  unfold pureStep at h
  split at h
  · rename_i hg
    split at h
    · rename_i x hx
      refine pl_op hg (op_val (fun A w β tmps hi he => pureOp_sound hT hx hi he) ?_)
      rw [PV.force_eq] at h
      unfold putE
      split at h
      · rename_i d hd; rw [forceL_eq] at h; cases h; exact hr
      · rename_i hd; cases h; exact hr
    · cases h
  · cases h

theorem pl_gpure {env' : List PV} (hT : Tys P tys) (h : pureOn tys st ops o env = some env') (hr : PWL P Gl B ops rest env' st Q) : PWL P Gl B ops (o :: rest) env st Q := by
  unfold pureOn at h
  split at h
  · rename_i j want hg
    split at h
    · rename_i b hy
      split at h
      · rename_i hb
        have hb' : b = want := by simpa using hb
        subst hb'
        split at h
        · rename_i x hx
          refine pl_on hg hy (op_val (fun A w β tmps hi he => pureOp_sound hT hx hi he) ?_)
          rw [PV.force_eq] at h
          unfold putE
          split at h
          · rename_i d hd; rw [forceL_eq] at h; cases h; exact hr
          · rename_i hd; cases h; exact hr
        · cases h
      · rename_i hb
        refine pl_off hg hy hb ?_
        unfold putE
        split at h
        · rename_i d hd; rw [forceL_eq] at h; cases h; exact hr
        · rename_i hd; cases h; exact hr
    · split at h
      · rename_i hy
        refine pl_offN hg hy ?_
        unfold putE
        split at h
        · rename_i d hd; rw [forceL_eq] at h; cases h; exact hr
        · rename_i hd; cases h; exact hr
      · cases h
  · cases h

/-- A bool that is not known: both ways. -/
theorem pl_cases {b : Bool} (h1 : b = true → PWL P Gl B ops rest env st Q) (h2 : b = false → PWL P Gl B ops rest env st Q) : PWL P Gl B ops rest env st Q := by
  cases b
  · exact h2 rfl
  · exact h1 rfl
end rules
end Go.Pw
namespace Go.Pw
open Go

section rules
variable {P : Program} {Gl : Glob} {B : Base} {tys : List TI} {env : List PV} {st : List PObj} {ops : Array Oper} {rest : List Oper} {o : Oper}
  {A : Nat → Prop} {w : World} {β : List Nat} {tmps : List Value}

theorem liveAt_snoc {o : PObj} {i : Nat} (h : liveAt (st ++ [o]) i) (hi : i < st.length) : liveAt st i := by
  obtain ⟨x, h1, h2⟩ := h
  rw [List.getElem?_append_left hi] at h1
  exact ⟨x, h1, h2⟩

/-- A new block becomes an owned object. -/
theorem Inv.snoc (hi : Inv Gl B A w β st) (ob : Obj) (x : PObj) (hx : ObjRel A (β ++ [w.heap.size]) (w.alloc ob) w.heap.size x) :
    Inv Gl B A (w.alloc ob) (β ++ [w.heap.size]) (st ++ [x]) := by
  have hsz : (w.alloc ob).heap.size = w.heap.size + 1 := by show (w.heap.push ob).size = _; simp
  have hsame : ∀ b, b < w.heap.size → (w.alloc ob).heap[b]? = w.heap[b]? := fun b hb => by
    show (w.heap.push ob)[b]? = _
    rw [Array.getElem?_push, if_neg (by omega)]
  have hlen := hi.len
  have hE : Ext A w A (w.alloc ob) := ⟨fun _ h => h, fun b hb => hsame b (hi.lt b hb)⟩
  have hget : ∀ {i b}, (β ++ [w.heap.size])[i]? = some b → (i < st.length ∧ β[i]? = some b) ∨ (i = st.length ∧ b = w.heap.size) := by
    intro i b h
    by_cases hi' : i < β.length
    · rw [List.getElem?_append_left hi'] at h; exact .inl ⟨by omega, h⟩
    · rw [List.getElem?_append_right (by omega)] at h
      cases hk : i - β.length with
      | zero => rw [hk] at h; simp at h; exact .inr ⟨by omega, h.symm⟩
      | succ n => rw [hk] at h; simp at h
  have hlt : ∀ {i b}, β[i]? = some b → liveAt st i → b < w.heap.size := fun {i b} hb ⟨o, ho, hl⟩ => (hi.obj i b o hb ho).lt hl
  refine ⟨by simp [hlen], ?_, ?_, ?_, ?_, ?_, hi.new, hi.old, by rw [hsz]; exact Nat.le_succ_of_le hi.size, hi.os, hi.tape, hi.output, ?_, hi.glob, fun i b h1 h2 => Pre.snoc _ _ _ _ (hi.pre i b h1 h2), hi.apart⟩
  · intro i j b h1 h2 l1 l2
    rcases hget h1 with ⟨a1, b1⟩ | ⟨a1, b1⟩ <;> rcases hget h2 with ⟨a2, b2⟩ | ⟨a2, b2⟩
    · exact hi.inj i j b b1 b2 (liveAt_snoc l1 a1) (liveAt_snoc l2 a2)
    · have := hlt b1 (liveAt_snoc l1 a1); omega
    · have := hlt b2 (liveAt_snoc l2 a2); omega
    · omega
  · intro i b o h1 h2
    rcases hget h1 with ⟨a1, b1⟩ | ⟨a1, b1⟩
    · rw [List.getElem?_append_left a1] at h2
      cases ho : o.live with
      | false => exact (hi.obj i b o b1 h2).still ho
      | true => exact (hi.obj i b o b1 h2).mono hE (Pre.snoc _ _) (hsame b (hlt b1 ⟨o, h2, ho⟩))
    · subst a1 b1
      rw [List.getElem?_append_right (Nat.le_refl _)] at h2
      simp at h2
      subst h2
      exact hx
  · intro i b h1 l1 hA
    rcases hget h1 with ⟨a1, b1⟩ | ⟨a1, b1⟩
    · exact hi.notA i b b1 (liveAt_snoc l1 a1) hA
    · have := hi.lt b hA; omega
  · intro i b h1 l1
    rcases hget h1 with ⟨a1, b1⟩ | ⟨a1, b1⟩
    · exact hi.own i b b1 (liveAt_snoc l1 a1)
    · right; rw [b1]; exact hi.size
  · intro b hb; rw [hsz]; exact Nat.lt_succ_of_lt (hi.lt b hb)
  · intro b hb hk; rw [hsame b (Nat.lt_of_lt_of_le hb hi.size)]; exact hi.keep b hb hk

theorem Inv.ext_alloc (hi : Inv Gl B A w β st) (ob : Obj) : Ext A w A (w.alloc ob) :=
  ⟨fun _ h => h, fun b hb => by
    show (w.heap.push ob)[b]? = _
    rw [Array.getElem?_push, if_neg (by have := hi.lt b hb; omega)]⟩

theorem run_newVar (t : TypeId) (v : Value) : (newVar t v).run P w = .ok ⟨w.heap.size, 0, none⟩ (w.alloc (.cells v.cells t)) := by
  simp [newVar, newRow]

theorem op_newbox {K : PV → List PObj → Prop} {cs : List PV} {t : TypeId}
    (h : ∀ A w β tmps, Inv Gl B A w β st → EnvRel A w β env tmps → ∃ v : Value, (∃ vs : List Value, v.cells = vs.toArray ∧ cs.length = vs.length ∧ ∀ (j : Nat) c u, cs[j]? = some c → vs[j]? = some u → Den A w β c u) ∧
      (execOp (⟨tmps.toArray, []⟩ : Act).eval o).run P w = .ok (.value (.pointer (some ⟨w.heap.size, 0, none⟩))) (w.alloc (.cells v.cells t)))
    (hK : K (.ptr st.length 0) (st ++ [.box cs])) : OpP P Gl B o env st K := fun A w β tmps Q hi he => by
  obtain ⟨v, ⟨vs, hv, hl, hd⟩, hr⟩ := h A w β tmps hi he
  unfold Oper.wp
  rw [hr]
  have hE := hi.ext_alloc (.cells v.cells t)
  have hlen := hi.len
  refine ⟨_, _, _, A, β ++ [w.heap.size], rfl, hK, .ptr _ _ _ _ ?_, hi.snoc _ _ ⟨vs, t, (0, 0), ?_, hl.symm, by omega, fun j c u hc hu => (hd j c u hc hu).mono hE (Pre.snoc _ _)⟩, hE, Pre.snoc _ _⟩
  · rw [← hlen]; simp
  · rw [← hv]
    show (w.heap.push _)[w.heap.size]? = _
    simp

theorem op_box {K : PV → List PObj → Prop} {t : TypeId} {x : Operand} (ho : o.op = .box t x) {p : PV} (hp : pe env x = p) (hk : p.okPart = true) (hK : K (.ptr st.length 0) (st ++ [.box p.cells])) :
    OpP P Gl B o env st K := op_newbox (cs := p.cells) (t := t) (fun A w β tmps hi he => by
  have hd := he.eval [] x
  rw [hp] at hd
  refine ⟨_, cells_den hd hk, ?_⟩
  simp only [execOp, ho, Instr.box, Sem.run_bind, run_newVar, Result.andThen_ok, Sem.run_pure]) hK

theorem op_alloc {K : PV → List PObj → Prop} {t : TypeId} (hT : Tys P tys) (ho : o.op = .alloc t) {tk : TK} {sz by_ : Nat} {z : List PV} (ht : tys[t]? = some ⟨tk, sz, by_, some z⟩)
    (hK : K (.ptr st.length 0) (st ++ [.box z])) : OpP P Gl B o env st K := op_newbox (cs := z) (t := t) (fun A w β tmps hi he => by
  obtain ⟨i, d, hi1, hu, htk, hsz, hby, hz⟩ := tyOf_spec (hT _ _ ht)
  cases hzv : i.zero with
  | none => rw [hzv] at hz; cases hz
  | some zv =>
    rw [hzv] at hz
    cases hz
    refine ⟨zv, ⟨zv.cells.toList, by simp, by simp, fun j c u h1 h2 => zero_den j c u h1 h2⟩, ?_⟩
    have hzr : (zeroValue t).run P w = .ok zv w := by simp [zeroValue, run_info hi1, hzv]
    simp only [execOp, ho, Instr.alloc, Sem.run_bind, hzr, run_newVar, Result.andThen_ok, Sem.run_pure]) hK

/-- Cells put over a part of a row. -/
def splice (cs : List PV) (off : Nat) (xs : List PV) : List PV := cs.take off ++ xs ++ cs.drop (off + xs.length)

theorem liveAt_set {i j : Nat} {x y : PObj} (hy : st[i]? = some y) (hyl : y.live = true) (h : liveAt (st.set i x) j) : liveAt st j := by
  obtain ⟨o, h1, h2⟩ := h
  rw [List.getElem?_set] at h1
  split at h1
  · rename_i hij; subst hij; exact ⟨y, hy, hyl⟩
  · exact ⟨o, h1, h2⟩

/-- An owned object's block is written. -/
theorem Inv.write (hi : Inv Gl B A w β st) {i b : Nat} {y x : PObj} (hb : β[i]? = some b) (hy : st[i]? = some y) (hyl : y.live = true) {w' : World} (hsz : w'.heap.size = w.heap.size) (hos : w'.os = w.os)
    (htp : w'.tape = w.tape) (hou : w'.output = w.output) (hoth : ∀ k, k ≠ b → w'.heap[k]? = w.heap[k]?) (hx : ObjRel A β w' b x) : Inv Gl B A w' β (st.set i x) ∧ Ext A w A w' := by
  have hnA : ¬ A b := hi.notA i b hb ⟨y, hy, hyl⟩
  have hE : Ext A w A w' := ⟨fun _ h => h, fun k hk => hoth k (fun e => hnA (e ▸ hk))⟩
  refine ⟨⟨by simp [hi.len], ?_, ?_, ?_, ?_, fun k hk => by rw [hsz]; exact hi.lt k hk, hi.new, hi.old, by rw [hsz]; exact hi.size, hos.trans hi.os, htp.trans hi.tape, hou.trans hi.output, ?_, hi.glob, hi.pre, hi.apart⟩, hE⟩
  · intro j k c h1 h2 l1 l2
    exact hi.inj j k c h1 h2 (liveAt_set hy hyl l1) (liveAt_set hy hyl l2)
  · intro j c o h1 h2
    rw [List.getElem?_set] at h2
    split at h2
    · rename_i hij
      subst hij
      rw [hb] at h1
      cases h1
      split at h2
      · cases h2; exact hx
      · cases h2
    · rename_i hij
      cases ho : o.live with
      | false => exact (hi.obj j c o h1 h2).still ho
      | true =>
        have hne : c ≠ b := fun e => by subst e; exact hij (hi.inj i j c hb h1 ⟨y, hy, hyl⟩ ⟨o, h2, ho⟩)
        exact (hi.obj j c o h1 h2).mono hE (Pre.refl _) (hoth c hne)
  · intro j c h1 l1; exact hi.notA j c h1 (liveAt_set hy hyl l1)
  · intro j c h1 l1; exact hi.own j c h1 (liveAt_set hy hyl l1)
  · intro k hk hK
    have hne : k ≠ b := fun e => by
      subst e
      rcases hi.own i k hb ⟨y, hy, hyl⟩ with h | h
      · exact hK h
      · omega
    rw [hoth k hne]; exact hi.keep k hk hK

theorem one_cell {p : PV} {v : Value} (h : Den A w β p v) (ho : p.one = true) : v.oneCell' = true := by
  cases h <;> first | rfl | (simp [PV.one] at ho)

theorem run_storeCells (b : Nat) (T : TypeId) (fr : Nat × Nat) : ∀ (us : List Value) (i base : Nat) (vs : List Value) (w : World), w.heap[b]? = some (.cells vs.toArray T fr) → base + i + us.length ≤ vs.length →
    (∀ u ∈ us, u.oneCell' = true) → (∀ j, j < vs.length → ¬ (fr.1 ≤ j ∧ j < fr.2)) →
    ∃ w', (storeCells ⟨b, base, none⟩ us i).run P w = .ok () w' ∧ w'.heap.size = w.heap.size ∧ w'.os = w.os ∧ w'.tape = w.tape ∧ w'.output = w.output ∧ (∀ k, k ≠ b → w'.heap[k]? = w.heap[k]?) ∧
      w'.heap[b]? = some (.cells (vs.take (base + i) ++ us ++ vs.drop (base + i + us.length)).toArray T fr)
  | [], i, base, vs, w, hw, hl, h1, hf => ⟨w, by simp [storeCells], rfl, rfl, rfl, rfl, fun _ _ => rfl, by simpa using hw⟩
  | u :: us, i, base, vs, w, hw, hl, h1, hf => by
    simp only [List.length_cons] at hl
    have hc : w.cell? ⟨b, base + i, none⟩ = some (vs[base + i]'(by omega)) := by rw [obj_cell hw]; exact List.getElem?_eq_getElem (by omega)
    have hfz : w.frozen? ⟨b, base + i, none⟩ = false := by
      simp only [World.frozen?, hw]
      have := hf (base + i) (by omega)
      simp only [Bool.and_eq_false_iff, decide_eq_false_iff_not]
      omega
    have hbs : b < w.heap.size := by
      rcases Nat.lt_or_ge b w.heap.size with h | h
      · exact h
      · rw [Array.getElem?_eq_none h] at hw; cases hw
    have hw' : (w.setCell ⟨b, base + i, none⟩ u).heap[b]? = some (.cells (vs.set (base + i) u).toArray T fr) := by
      simp [World.setCell, Array.getElem?_modify, hw]
    obtain ⟨w2, r1, r2, r3, r4, r5, r6, r7⟩ := run_storeCells b T fr us (i + 1) base (vs.set (base + i) u) (w.setCell ⟨b, base + i, none⟩ u) hw' (by simp; omega) (fun x hx => h1 x (by simp [hx])) (by simpa using hf)
    refine ⟨w2, ?_, r2.trans (by simp [World.setCell]), r3, r4, r5, fun k hk => (r6 k hk).trans ?_, ?_⟩
    · simp only [storeCells, Sem.run_bind, addr_add, run_store _ _ _ _ _ (h1 u (by simp)), hc, hfz, Bool.false_eq_true, if_false, Result.andThen_ok, r1]
    · simp only [World.setCell, Array.getElem?_modify]; rw [if_neg (fun e => hk e.symm)]
    · rw [r7]
      congr 3
      rw [List.drop_set_of_lt (by omega), ← Nat.add_assoc, List.take_succ_eq_append_getElem (by simp; omega), List.take_set_of_le (Nat.le_refl _)]
      simp [Nat.add_assoc, Nat.add_comm 1]

theorem op_store {K : PV → List PObj → Prop} {t : TypeId} {a x : Operand} (hT : Tys P tys) (ho : o.op = .store t a x) {p : PV} {i off : Nat} {cs : List PV} {ti : TI} (ht : tys[t]? = some ti)
    (ha : pe env a = .ptr i off) (hp : pe env x = p) (hs : st[i]? = some (.box cs)) (hk : p.okPart = true) (h1 : p.cells.all PV.one = true) (hsz : p.cells.length = ti.size) (hle : off + ti.size ≤ cs.length)
    (hK : K .any (st.set i (.box (splice cs off p.cells)))) : OpP P Gl B o env st K := fun A w β tmps Q hi he => by
  have hda := he.eval [] a
  have hdx := he.eval [] x
  rw [ha] at hda
  rw [hp] at hdx
  obtain ⟨b, hb, hv⟩ := hda.ptr_inv
  obtain ⟨us, hu1, hu2, hu3⟩ := cells_den hdx hk
  obtain ⟨vs, T', fr, g1, g2, g3, g4⟩ := hi.obj _ _ _ hb hs
  obtain ⟨ity, d, hi1, hut, htk, hts, _⟩ := tyOf_spec (hT _ _ ht)
  have hone : ∀ u ∈ us, u.oneCell' = true := by
    intro u hu
    obtain ⟨j, hj⟩ := List.mem_iff_getElem?.1 hu
    have hlt : j < p.cells.length := by rw [hu2]; exact (List.getElem?_eq_some_iff.1 hj).1
    have hcj : p.cells[j]? = some p.cells[j] := List.getElem?_eq_getElem hlt
    exact one_cell (hu3 j _ u hcj hj) (List.all_eq_true.1 h1 _ (List.getElem_mem hlt))
  obtain ⟨w', r1, r2, r3, r4, r5, r6, r7⟩ := run_storeCells (P := P) b T' fr us 0 off vs w g1 (by omega) hone (by rw [g2]; exact g3)
  have hx : ObjRel A β w' b (.box (splice cs off p.cells)) := by
    have hE : Ext A w A w' := ⟨fun _ h => h, fun k hkk => r6 k (fun e => hi.notA i b hb ⟨_, hs, rfl⟩ (e ▸ hkk))⟩
    refine ⟨_, T', fr, r7, ?_, ?_, ?_⟩
    · simp [splice]; omega
    · intro j hj; exact g3 j (by simp [splice] at hj; omega)
    · intro j c u hc hu
      exact (splice_den g2.symm hu2 (by omega) g4 hu3 j c u hc (by simpa using hu)).mono hE (Pre.refl _)
  obtain ⟨hi', hE⟩ := hi.write hb hs rfl r2 r3 r4 r5 r6 hx
  unfold Oper.wp
  have hrun : (execOp (⟨tmps.toArray, []⟩ : Act).eval o).run P w = .ok .skip w' := by
    simp only [execOp, ho, Instr.storeAt, Sem.run_bind, hv, Instr.sureAddr, Sem.run_pure, Result.andThen_ok, storeVar]
    have hsz' : (sizeOf t).run P w = .ok ti.size w := run_size (by simp [szOf, hi1, hts]) w
    rw [hsz', Result.andThen_ok, if_neg (by rw [hu1]; simp; omega), hu1]
    simp only [r1, Result.andThen_ok]
  rw [hrun]
  exact ⟨_, .any, _, A, β, rfl, hK, .any .., hi', hE, .refl _⟩
end rules
end Go.Pw
namespace Go.Pw
open Go

/-- What a call leaves behind. -/
def PRet (Gl : Glob) (B : Base) (Q : PV → List PObj → Prop) (e : Ending) (w' : World) : Prop :=
  ∃ r v st' A' β', e = .returned v ∧ Q r st' ∧ Den A' w' β' r v ∧ Inv Gl B A' w' β' st'

def ArgRel (A : Nat → Prop) (w : World) (β : List Nat) (args : List PV) (vals : List Value) : Prop := EnvRel A w β args vals

/-- The contract of a function over pure values: from these arguments and these owned objects it returns, and Q holds of its result and the objects. -/
def PCalls (P : Program) (Gl : Glob) (f : FuncId) (args : List PV) (st : List PObj) (Q : PV → List PObj → Prop) : Prop :=
  ∀ A w β vals, Inv Gl (base0 A w β st) A w β st → ArgRel A w β args vals → Calls P f vals.toArray w (PRet Gl (base0 A w β st) Q)

theorem PCalls.mono {P : Program} {Gl : Glob} {f : FuncId} {args : List PV} {st : List PObj} {Q Q' : PV → List PObj → Prop} (h : PCalls P Gl f args st Q) (hq : ∀ r st', Q r st' → Q' r st') :
    PCalls P Gl f args st Q' := fun A w β vals hi ha => (h A w β vals hi ha).mono fun _ _ ⟨r, v, st', A', β', h1, h2, h3⟩ => ⟨r, v, st', A', β', h1, hq _ _ h2, h3⟩

/-- The pure value of a result variable. -/
def resOne (tys : List TI) (env : List PV) (st : List PObj) : ResultVar → Option PV
  | .tmp t => some ((env[t]?).getD .any)
  | .cell a t => match (env[a]?).getD .any with
    | .ptr _ _ => pureOp tys st env (.load t (.tmp a))
    | _ => none
def resAll (tys : List TI) (env : List PV) (st : List PObj) : List ResultVar → Option (List PV)
  | [] => some []
  | r :: rs => match resOne tys env st r with
    | some x => match resAll tys env st rs with
      | some xs => some (x :: xs)
      | none => none
    | none => none
def resP (tys : List TI) (env : List PV) (st : List PObj) (rs : List ResultVar) : Option PV :=
  match resAll tys env st rs with
  | some [x] => some x
  | some xs => some (.tup xs)
  | none => none

/-- References of a pure value: all satisfy d (looked at to some depth; within slices there are none). -/
def PV.refs (d : Nat → Bool) : Nat → PV → Bool
  | 0, _ => false
  | n + 1, p => match p with
    | .ptr i _ => d i
    | .eptr _ i _ _ => d i
    | .msl _ i _ _ _ => d i
    | .map i => d i
    | .fn _ cs => cs.all (PV.refs d n)
    | .bfn _ cs => cs.all (PV.refs d n)
    | .iface _ v => PV.refs d n v
    | .agg cs => cs.all (PV.refs d n)
    | .tup cs => cs.all (PV.refs d n)
    | _ => true
/-- The references, numbered anew. -/
def PV.ren (r : Nat → Nat) : Nat → PV → PV
  | 0, p => p
  | n + 1, p => match p with
    | .ptr i off => .ptr (r i) off
    | .eptr k i e off => .eptr k (r i) e off
    | .msl k i off len cap => .msl k (r i) off len cap
    | .map i => .map (r i)
    | .fn f cs => .fn f (cs.map (PV.ren r n))
    | .bfn f cs => .bfn f (cs.map (PV.ren r n))
    | .iface t v => .iface t (PV.ren r n v)
    | .agg cs => .agg (cs.map (PV.ren r n))
    | .tup cs => .tup (cs.map (PV.ren r n))
    | p => p

section
variable {P : Program} {Gl : Glob} {B : Base} {tys : List TI} {env : List PV} {st : List PObj} {A : Nat → Prop} {w : World} {β β' : List Nat}

theorem Den.ren {d : Nat → Bool} {r : Nat → Nat} (hr : ∀ (i b : Nat), d i = true → β[i]? = some b → β'[r i]? = some b) : ∀ (n : Nat) {p : PV} {v : Value}, Den A w β p v → p.refs d n = true → Den A w β' (p.ren r n) v := by
  intro n
  induction n with
  | zero => intro p v _ h; simp [PV.refs] at h
  | succ n ih =>
    intro p v hd h
    have lst : ∀ (cs : List PV) (vs : List Value), cs.length = vs.length → (∀ (j : Nat) c v, cs[j]? = some c → vs[j]? = some v → Den A w β c v) → cs.all (PV.refs d n) = true →
        (cs.map (PV.ren r n)).length = vs.length ∧ (∀ (j : Nat) c v, (cs.map (PV.ren r n))[j]? = some c → vs[j]? = some v → Den A w β' c v) := by
      intro cs vs hl hd ha
      refine ⟨by simp [hl], fun j c v hc hv => ?_⟩
      rw [List.getElem?_map] at hc
      cases hx : cs[j]? with
      | none => rw [hx] at hc; cases hc
      | some x => rw [hx] at hc; cases hc; exact ih (hd j x v hx hv) (List.all_eq_true.1 ha x (List.mem_of_getElem? hx))
    cases hd <;> simp only [PV.refs, PV.ren] at h ⊢
    case any => exact .any ..
    case bool => exact .bool ..
    case int => exact .int ..
    case str => exact .str ..
    case nilptr => exact .nilptr ..
    case ptr hb => exact .ptr _ _ _ _ (hr _ _ h hb)
    case eptr hb => exact .eptr _ _ _ _ _ _ (hr _ _ h hb)
    case gptr => exact .gptr ..
    case vptr f h1 h2 h3 => exact .vptr _ _ _ _ f h1 h2 h3
    case nilsl => exact .nilsl ..
    case slnil => exact .slnil ..
    case sl h1 h2 h3 h4 h5 h6 => exact .sl _ _ _ _ _ _ h1 h2 h3 h4 h5 h6
    case msl hb => exact .msl _ _ _ _ _ _ _ (hr _ _ h hb)
    case mslnil => exact .mslnil ..
    case nilmap => exact .nilmap ..
    case map hb => exact .map _ _ _ (hr _ _ h hb)
    case nilfn => exact .nilfn ..
    case fn vs h1 h2 => obtain ⟨g1, g2⟩ := lst _ _ h1 h2 h; exact .fn _ _ _ _ g1 g2
    case bfn vs h1 h2 => obtain ⟨g1, g2⟩ := lst _ _ h1 h2 h; exact .bfn _ _ _ _ g1 g2
    case niliface => exact .niliface ..
    case iface h1 => exact .iface _ _ _ _ (ih h1 h)
    case agg vs h1 h2 => obtain ⟨g1, g2⟩ := lst _ _ h1 h2 h; exact .agg _ _ _ g1 g2
    case tup vs h1 h2 => obtain ⟨g1, g2⟩ := lst _ _ h1 h2 h; exact .tup _ _ _ g1 g2

theorem PV.ren_id : ∀ (n : Nat) (p : PV), p.ren (fun i => i) n = p := by
  intro n
  induction n with
  | zero => intro p; rfl
  | succ n ih =>
    intro p
    have hm : ∀ cs : List PV, cs.map (PV.ren (fun i => i) n) = cs := fun cs => by
      rw [List.map_congr_left (fun p _ => ih p)]; simp
    cases p <;> simp [PV.ren, hm, ih]

/-- A value whose references lie below n does not ask for more. -/
theorem Den.refsBelow {n m : Nat} {p : PV} {v : Value} (h : Den A w β p v) (hp : p.refs (fun i => decide (i < n)) m = true) : Den A w (β.take n) p v := by
  have := h.ren (β' := β.take n) (d := fun i => decide (i < n)) (r := fun i => i) (fun i b hi hb => by
    simp only [decide_eq_true_eq] at hi
    rw [List.getElem?_take, if_pos hi]; exact hb) m hp
  rwa [PV.ren_id] at this

def PObj.refs (d : Nat → Bool) (n : Nat) : PObj → Bool
  | .box cs => cs.all (PV.refs d n)
  | .map es => es.all fun e => e.2.refs d n
  | _ => true
def PObj.ren (r : Nat → Nat) (n : Nat) : PObj → PObj
  | .box cs => .box (cs.map (PV.ren r n))
  | .map es => .map (es.map fun e => (e.1, e.2.ren r n))
  | o => o

theorem ObjRel.ren {d : Nat → Bool} {r : Nat → Nat} (hr : ∀ (i b : Nat), d i = true → β[i]? = some b → β'[r i]? = some b) {n : Nat} {b : Nat} {o : PObj} (h : ObjRel A β w b o) (ho : o.refs d n = true) :
    ObjRel A β' w b (o.ren r n) := by
  cases o with
  | dead => trivial
  | box cs =>
    obtain ⟨vs, T, fr, h1, h2, h3, h4⟩ := h
    refine ⟨vs, T, fr, h1, by simp [h2], by simpa using h3, fun j c v hc hv => ?_⟩
    rw [List.getElem?_map] at hc
    cases hx : cs[j]? with
    | none => rw [hx] at hc; cases hc
    | some x => rw [hx] at hc; cases hc; exact (h4 j x v hx hv).ren hr n (List.all_eq_true.1 ho x (List.mem_of_getElem? hx))
  | arr k xs cap => exact h
  | map es =>
    obtain ⟨mes, cl, h1, h2, h3⟩ := h
    refine ⟨mes, cl, h1, by simp [h2], fun j k v hj => ?_⟩
    rw [List.getElem?_map] at hj
    cases hx : es[j]? with
    | none => rw [hx] at hj; cases hj
    | some x =>
      rw [hx] at hj
      cases hj
      obtain ⟨e, g1, g2, g3⟩ := h3 j x.1 x.2 hx
      exact ⟨e, g1, g2, g3.ren hr n (List.all_eq_true.1 ho x (List.mem_of_getElem? hx))⟩

theorem PObj.ren_id (n : Nat) (o : PObj) : o.ren (fun i => i) n = o := by
  cases o with
  | box cs =>
    simp only [PObj.ren]
    rw [List.map_congr_left (g := fun p => p) (fun p _ => PV.ren_id n p)]; simp
  | map es =>
    simp only [PObj.ren, PV.ren_id]
    simp
  | _ => rfl

theorem liveAt_take {n i : Nat} (h : liveAt (st.take n) i) : liveAt st i ∧ i < n := by
  obtain ⟨o, h1, h2⟩ := h
  rw [List.getElem?_take] at h1
  split at h1
  · exact ⟨⟨o, h1, h2⟩, by assumption⟩
  · cases h1

/-- The objects behind the first n are given up. -/
theorem Inv.take (hi : Inv Gl B A w β st) (n m : Nat) (hn : B.β.length ≤ n) (h : (st.take n).all (PObj.refs (fun i => decide (i < n)) m) = true) : Inv Gl B A w (β.take n) (st.take n) := by
  have hg : ∀ {i b : Nat}, (β.take n)[i]? = some b → β[i]? = some b := fun {i b} h => by
    rw [List.getElem?_take] at h
    split at h
    · exact h
    · cases h
  refine ⟨by simp [hi.len], ?_, ?_, ?_, ?_, hi.lt, hi.new, hi.old, hi.size, hi.os, hi.tape, hi.output, hi.keep, hi.glob, fun i b h1 h2 => ?_, hi.apart⟩
  · intro i j b h1 h2 l1 l2; exact hi.inj i j b (hg h1) (hg h2) (liveAt_take l1).1 (liveAt_take l2).1
  · intro i b o h1 h2
    have h2' := h2
    rw [List.getElem?_take] at h2'
    split at h2'
    · have := (hi.obj i b o (hg h1) h2').ren (β' := β.take n) (d := fun i => decide (i < n)) (r := fun i => i) (n := m) (fun i b hi hb => by
        simp only [decide_eq_true_eq] at hi
        rw [List.getElem?_take, if_pos hi]; exact hb) (List.all_eq_true.1 h o (List.mem_of_getElem? h2))
      rwa [PObj.ren_id] at this
    · cases h2'
  · intro i b h1 l1; exact hi.notA i b (hg h1) (liveAt_take l1).1
  · intro i b h1 l1; exact hi.own i b (hg h1) (liveAt_take l1).1
  · have := (List.getElem?_eq_some_iff.1 h2).1
    rw [List.getElem?_take, if_pos (by omega)]; exact hi.pre i b h1 h2

theorem resAll_sound (hT : Tys P tys) {tmps : List Value} (hi : Inv Gl B A w β st) (he : EnvRel A w β env tmps) : ∀ {rs : List ResultVar} {xs : List PV}, resAll tys env st rs = some xs →
    ∃ vs : List Value, (rs.mapM (fun | .tmp t => pure (tmps.toArray.getD t undef) | .cell a t => do loadVar t (← asAddr (tmps.toArray.getD a undef)) : ResultVar → Sem Value)).run P w = .ok vs w ∧ EnvRel A w β xs vs
  | [], xs, h => by simp only [resAll] at h; cases h; exact ⟨[], by simp, rfl, by intro i p v hp; simp at hp⟩
  | r :: rs, xs, h => by
    simp only [resAll] at h
    split at h
    · rename_i x hx
      split at h
      · rename_i ys hys
        cases h
        obtain ⟨vs, hv1, hv2, hv3⟩ := resAll_sound hT hi he hys
        have cons : ∀ v, Den A w β x v → EnvRel A w β (x :: ys) (v :: vs) := fun v hd => ⟨by simp [hv2], fun i p u hp hu => by
          cases i with
          | zero => simp at hp hu; subst hp hu; exact hd
          | succ i => exact hv3 i p u (by simpa using hp) (by simpa using hu)⟩
        cases r with
        | tmp t =>
          simp only [resOne] at hx
          cases hx
          have := he.eval [] (.tmp t)
          refine ⟨_, ?_, cons _ this⟩
          simp only [List.mapM_cons, Sem.run_bind, Sem.run_pure, Result.andThen_ok, hv1]
          rfl
        | cell a t =>
          simp only [resOne] at hx
          split at hx
          · rename_i i off hp
            obtain ⟨v, hr, hd⟩ := pureOp_sound (P := P) (o := ⟨none, .load t (.tmp a), 0, "", #[], none⟩) hT hx hi he
            have hda := he.eval [] (.tmp a)
            simp only [pe, hp] at hda
            obtain ⟨b, hb, hv⟩ := hda.ptr_inv
            have hv' : tmps.toArray.getD a undef = .pointer (some ⟨b, off, none⟩) := hv
            refine ⟨_, ?_, cons _ hd⟩
            simp only [execOp, Instr.loadAt, Sem.run_bind, hv, Instr.sureAddr, Sem.run_pure, Result.andThen_ok] at hr
            simp only [List.mapM_cons, Sem.run_bind, hv', asAddr, Sem.run_pure, Result.andThen_ok]
            generalize (loadVar t ⟨b, off, none⟩).run P w = res at hr
            cases res with
            | ok u w' =>
              simp at hr
              obtain ⟨rfl, rfl⟩ := hr
              simp only [Result.andThen_ok]
              erw [hv1]
              rfl
            | halt _ _ => simp at hr
          · cases hx
      · cases h
    · cases h

theorem resP_sound (hT : Tys P tys) {fn : Func} {tmps : List Value} (hi : Inv Gl B A w β st) (he : EnvRel A w β env tmps) {x : PV} (h : resP tys env st fn.results.toList = some x) :
    ∃ v, (results fn tmps.toArray).run P w = .ok v w ∧ Den A w β x v := by
  unfold resP at h
  have key : ∀ xs, resAll tys env st fn.results.toList = some xs → ∃ vs : List Value, EnvRel A w β xs vs ∧ (results fn tmps.toArray).run P w = .ok (if h : vs.toArray.size = 1 then vs.toArray[0] else .tuple vs.toArray) w := by
    intro xs hxs
    obtain ⟨vs, hv, he'⟩ := resAll_sound (P := P) hT hi he hxs
    refine ⟨vs, he', ?_⟩
    unfold results
    rw [Array.mapM_eq_mapM_toList]
    simp only [Sem.run_bind, Sem.run_map]
    have hv' : (List.mapM (fun x => match x with | .tmp t => pure (tmps.toArray.getD t undef) | .cell a t => do loadVar t (← asAddr (tmps.toArray.getD a undef)) : ResultVar → Sem Value) fn.results.toList).run P w = .ok vs w := hv
    erw [hv']
    rfl
  split at h
  · rename_i y hy
    cases h
    obtain ⟨vs, he', hr⟩ := key _ hy
    have hl : vs.length = 1 := by rw [← he'.1]; rfl
    match vs, hl with
    | [v], _ => exact ⟨v, hr, he'.2 0 _ v rfl rfl⟩
  · rename_i xs hne hxs
    cases h
    obtain ⟨vs, he', hr⟩ := key _ hxs
    have hl : vs.toArray.size ≠ 1 := fun h1 => by
      have : xs.length = 1 := by rw [he'.1]; simpa using h1
      match xs, this with
      | [y], _ => exact hne y rfl
    rw [dif_neg hl] at hr
    exact ⟨_, hr, .tup _ _ _ he'.1 he'.2⟩
  · cases h

/-- A function's body meets its contract; the objects behind the first n are given up. -/
def retPost (tys : List TI) (rs : List ResultVar) (n : Nat) (Q : PV → List PObj → Prop) : Post
  | .normal, env, st | .ret, env, st => ∃ r, resP tys env st rs = some r ∧ r.refs (fun i => decide (i < n)) 5 = true ∧ (st.take n).all (PObj.refs (fun i => decide (i < n)) 5) = true ∧ Q r (st.take n)
  | _, _, _ => False

theorem PCalls.of_body {f : FuncId} {fn : Func} {c : Code} {args : List PV} {Q : PV → List PObj → Prop} (hT : Tys P tys) (hf : P.funcs[f]? = some fn) (hb : fn.body = some c) (n : Nat) (hn : st.length ≤ n)
    (h : ∀ B, PW P Gl B c (args ++ List.replicate (fn.ntmps - args.length) .any) st (retPost tys fn.results.toList n Q)) : PCalls P Gl f args st Q := fun A w β vals hi ha => by
  refine calls_of_wp hf hb ?_
  have hfr : vals.toArray ++ Array.replicate (fn.ntmps - vals.toArray.size) undef = (vals ++ List.replicate (fn.ntmps - args.length) undef).toArray := by
    rw [ha.1]; simp
  rw [hfr]
  have he : EnvRel A w β (args ++ List.replicate (fn.ntmps - args.length) .any) (vals ++ List.replicate (fn.ntmps - args.length) undef) := by
    refine ⟨by simp [ha.1], fun i p v hp hv => ?_⟩
    by_cases hi' : i < args.length
    · rw [List.getElem?_append_left hi'] at hp
      rw [List.getElem?_append_left (by rw [← ha.1]; exact hi')] at hv
      exact ha.2 i p v hp hv
    · rw [List.getElem?_append_right (by omega), List.getElem?_replicate] at hp
      split at hp
      · cases hp; exact .any ..
      · cases hp
  refine wp_mono (h _ A w β _ hi he) ?_
  rintro e a' w' ⟨env', st', A', β', t', rfl, h2, h3, h4⟩
  have fin : (∃ r, resP tys env' st' fn.results.toList = some r ∧ r.refs (fun i => decide (i < n)) 5 = true ∧ (st'.take n).all (PObj.refs (fun i => decide (i < n)) 5) = true ∧ Q r (st'.take n)) →
      ∃ v, (results fn (⟨t'.toArray, []⟩ : Act).tmps).run P w' = .ok v w' ∧ PRet Gl (base0 A w β st) Q (.returned v) w' := by
    rintro ⟨r, g1, g2, g3, g4⟩
    obtain ⟨v, hv, hd⟩ := resP_sound hT h3 h4 g1
    exact ⟨v, hv, r, v, st'.take n, A', β'.take n, rfl, g4, hd.refsBelow g2, h3.take n 5 (by show β.length ≤ n; have := hi.len; omega) g3⟩
  cases e with
  | normal => exact ⟨rfl, fin h2⟩
  | ret => exact ⟨rfl, fin h2⟩
  | _ => exact h2.elim

theorem PV.ren_none {r : Nat → Nat} : ∀ (n : Nat) (p : PV), p.refs (fun _ => false) n = true → p.ren r n = p := by
  intro n
  induction n with
  | zero => intro p h; rfl
  | succ n ih =>
    intro p h
    have lst : ∀ cs : List PV, cs.all (PV.refs (fun _ => false) n) = true → cs.map (PV.ren r n) = cs := fun cs hc => by
      rw [List.map_congr_left (g := fun x => x) (fun p hp => ih p (List.all_eq_true.1 hc p hp))]; simp
    cases p <;> simp only [PV.refs, PV.ren] at h ⊢ <;> first | (cases h; done) | (rw [lst _ h]) | (rw [ih _ h])

/-- That a function's number is entered by a call. -/
def Enters (P : Program) (f : FuncId) : Prop := ∀ args w, (callFunc f args).run P w = .ok (.enter f args) w

def idxIn (sel : List Nat) (i : Nat) : Nat := sel.idxOf i
def idxOut (sel : List Nat) (n j : Nat) : Nat := if j < sel.length then sel.getD j 0 else n + (j - sel.length)
def mergeAux (sel : List Nat) (st' : List PObj) : Nat → List PObj → List PObj
  | _, [] => []
  | i, x :: xs => (if sel.contains i then st'.getD (sel.idxOf i) .dead else x) :: mergeAux sel st' (i + 1) xs
def merge (sel : List Nat) (st st' : List PObj) : List PObj := mergeAux sel st' 0 st ++ st'.drop sel.length

theorem mergeAux_get (sel : List Nat) (st' : List PObj) : ∀ (st : List PObj) (k i : Nat), (mergeAux sel st' k st)[i]? = (st[i]?).map fun x => if sel.contains (k + i) then st'.getD (sel.idxOf (k + i)) .dead else x
  | [], k, i => by simp [mergeAux]
  | x :: st, k, 0 => by simp [mergeAux]
  | x :: st, k, i + 1 => by
    simp only [mergeAux, List.getElem?_cons_succ, mergeAux_get sel st' st (k + 1) i]
    rw [show k + 1 + i = k + (i + 1) by omega]
theorem mergeAux_len (sel : List Nat) (st' : List PObj) : ∀ (st : List PObj) (k : Nat), (mergeAux sel st' k st).length = st.length
  | [], _ => rfl
  | _ :: st, k => by simp [mergeAux, mergeAux_len sel st' st (k + 1)]

/-- The selected objects, as the callee sees them. -/
def selSt (sel : List Nat) (st : List PObj) : List PObj := sel.map fun i => (st.getD i .dead).ren (idxIn sel) 5

theorem op_call {o : Oper} {K : PV → List PObj → Prop} {fop : Operand} {args : Array Operand} {ats : Array TypeId} {f : FuncId} {caps : List PV} {Q : PV → List PObj → Prop} (sel : List Nat)
    (ho : o.op = .call ⟨.value fop, args, ats⟩) (hf : pe env fop = .fn f caps) (hent : Enters P f) (hnd : sel.Nodup) (hlive : sel.all (fun i => (st.getD i .dead).live && (st.getD i .dead).stays) = true)
    (hrefs : (args.toList.map (pe env) ++ caps).all (PV.refs sel.contains 5) = true) (hobjs : sel.all (fun i => (st.getD i .dead).refs sel.contains 5) = true)
    {cargs : List PV} {cst : List PObj} (hle : Le ((args.toList.map (pe env) ++ caps).map (PV.ren (idxIn sel) 5)) cargs) (hls : StLe (selSt sel st) cst) (hc : PCalls P Gl f cargs cst Q)
    (hK : ∀ r st', Q r st' → r.refs (fun _ => true) 5 = true ∧ st'.all (PObj.refs (fun _ => true) 5) = true ∧ K (r.ren (idxOut sel st.length) 5) (merge sel st (st'.map (PObj.ren (idxOut sel st.length) 5)))) :
    OpP P Gl B o env st K := fun A w β tmps Q' hi he => by
  have hlen := hi.len
  have hsl : ∀ i ∈ sel, liveAt st i := fun i h => by
    have := List.all_eq_true.1 hlive i h
    cases hx : st[i]? with
    | none => simp [List.getD, hx, PObj.live] at this
    | some x => simp [List.getD, hx] at this; exact ⟨x, hx, this.1⟩
  have hst : ∀ i ∈ sel, (st.getD i .dead).stays = true := fun i h => by
    have := List.all_eq_true.1 hlive i h
    simp only [Bool.and_eq_true] at this
    exact this.2
  have hsb : ∀ i ∈ sel, ∃ b, β[i]? = some b := fun i h => by
    obtain ⟨x, hx, _⟩ := hsl i h
    have : i < β.length := by rw [hlen]; exact (List.getElem?_eq_some_iff.1 hx).1
    exact ⟨_, List.getElem?_eq_getElem this⟩
  -- the callee's blocks
  let γ : List Nat := sel.map fun i => β.getD i 0
  have hγ : ∀ {j b : Nat}, γ[j]? = some b → ∃ i, sel[j]? = some i ∧ β[i]? = some b := by
    intro j b h
    simp only [γ, List.getElem?_map] at h
    cases hx : sel[j]? with
    | none => rw [hx] at h; cases h
    | some i =>
      rw [hx] at h
      cases h
      obtain ⟨b', hb'⟩ := hsb i (List.mem_of_getElem? hx)
      exact ⟨i, rfl, by simp [List.getD, hb']⟩
  have hin : ∀ (i b : Nat), sel.contains i = true → β[i]? = some b → γ[idxIn sel i]? = some b := by
    intro i b h hb
    have hm : i ∈ sel := by simpa using h
    have hlt := List.idxOf_lt_length_of_mem hm
    simp only [γ, idxIn, List.getElem?_map, List.getElem?_eq_getElem hlt, List.getElem_idxOf hlt, Option.map_some, List.getD, hb, Option.getD_some]
  have hcst : ∀ {j : Nat} {x : PObj}, (selSt sel st)[j]? = some x → ∃ i y, sel[j]? = some i ∧ st[i]? = some y ∧ x = y.ren (idxIn sel) 5 ∧ y.refs sel.contains 5 = true ∧ y.live = true := by
    intro j x h
    simp only [selSt, List.getElem?_map] at h
    cases hx : sel[j]? with
    | none => rw [hx] at h; cases h
    | some i =>
      rw [hx] at h
      cases h
      obtain ⟨y, hy, hl⟩ := hsl i (List.mem_of_getElem? hx)
      have hr := List.all_eq_true.1 hobjs i (List.mem_of_getElem? hx)
      simp only [List.getD, hy, Option.getD_some] at hr ⊢
      exact ⟨i, y, rfl, hy, rfl, hr, hl⟩
  have hrl : ∀ (y : PObj) (r : Nat → Nat) n, (y.ren r n).live = y.live := fun y r n => by cases y <;> rfl
  have hjj : ∀ {j k i : Nat}, sel[j]? = some i → sel[k]? = some i → j = k := fun {j k i} h1 h2 => by
    have a := (List.getElem?_eq_some_iff.1 h1)
    have b := (List.getElem?_eq_some_iff.1 h2)
    obtain ⟨l1, e1⟩ := a
    obtain ⟨l2, e2⟩ := b
    have hp := List.pairwise_iff_getElem.1 hnd
    rcases Nat.lt_trichotomy j k with h | h | h
    · exact (hp j k l1 l2 h (e1.trans e2.symm)).elim
    · exact h
    · exact (hp k j l2 l1 h (e2.trans e1.symm)).elim
  have hic0 : Inv Gl (base0 A w γ (selSt sel st)) A w γ (selSt sel st) := by
    have hr := hi.rebase
    have hK0 : ∀ {b : Nat}, (base0 A w γ (selSt sel st)).K b → ∃ i, i ∈ sel ∧ β[i]? = some b := fun {b} ⟨j, hj, _⟩ => by
      obtain ⟨i1, s1, b1⟩ := hγ hj
      exact ⟨i1, List.mem_of_getElem? s1, b1⟩
    refine ⟨by simp [γ, selSt], ?_, ?_, ?_, ?_, hi.lt, fun b h => .inl h, fun b h => h, Nat.le_refl _, rfl, rfl, rfl, fun _ _ _ => rfl, ?_, fun i b _ h => h, fun b hb => ⟨fun hk => ?_, hi.lt b hb⟩⟩
    · intro j k b h1 h2 l1 l2
      obtain ⟨i1, s1, b1⟩ := hγ h1
      obtain ⟨i2, s2, b2⟩ := hγ h2
      have := hi.inj i1 i2 b b1 b2 (hsl _ (List.mem_of_getElem? s1)) (hsl _ (List.mem_of_getElem? s2))
      subst this
      exact hjj s1 s2
    · intro j b x h1 h2
      obtain ⟨i1, s1, b1⟩ := hγ h1
      obtain ⟨i2, y, s2, hy, rfl, hr, _⟩ := hcst h2
      rw [s1] at s2; cases s2
      exact (hi.obj i1 b y b1 hy).ren hin hr
    · intro j b h1 l1
      obtain ⟨i1, s1, b1⟩ := hγ h1
      exact hi.notA i1 b b1 (hsl _ (List.mem_of_getElem? s1))
    · intro j b h1 l1; exact .inl ⟨j, h1, l1⟩
    · intro b hb
      obtain ⟨g1, g2, g3⟩ := hr.glob b hb
      refine ⟨g1, fun hm => ?_, g3⟩
      obtain ⟨i1, s1, b1⟩ := hK0 hm
      exact g2 ⟨i1, b1, hsl _ s1⟩
    · obtain ⟨i1, s1, b1⟩ := hK0 hk
      exact hi.notA i1 b b1 (hsl _ s1) hb
  have hic := (hic0.weaken hls).rebase
  have hKsel : ∀ {b : Nat}, (base0 A w γ cst).K b → ∃ i, i ∈ sel ∧ β[i]? = some b := fun {b} ⟨j, hj, _⟩ => by
    obtain ⟨i1, s1, b1⟩ := hγ hj
    exact ⟨i1, List.mem_of_getElem? s1, b1⟩
  -- the arguments
  have hfv := he.eval [] fop
  rw [hf] at hfv
  obtain ⟨cvs, hcv, hcl, hcd⟩ := hfv.fn_inv
  have hargs : ArgRel A w γ ((args.toList.map (pe env) ++ caps).map (PV.ren (idxIn sel) 5)) (args.toList.map (⟨tmps.toArray, []⟩ : Act).eval ++ cvs) := by
    refine ⟨by simp [hcl], fun j p v hp hv => ?_⟩
    rw [List.getElem?_map] at hp
    cases hx : (args.toList.map (pe env) ++ caps)[j]? with
    | none => rw [hx] at hp; cases hp
    | some x =>
      rw [hx] at hp
      cases hp
      refine Den.ren hin 5 ?_ (List.all_eq_true.1 hrefs x (List.mem_of_getElem? hx))
      by_cases hj : j < args.toList.length
      · rw [List.getElem?_append_left (by simpa using hj), List.getElem?_map] at hx hv
        cases hy : args.toList[j]? with
        | none => rw [hy] at hx; cases hx
        | some y => rw [hy] at hx hv; cases hx; cases hv; exact he.eval [] y
      · rw [List.getElem?_append_right (by simpa using hj)] at hx hv
        simp only [List.length_map] at hx hv
        exact hcd _ x v hx hv
  have hcall := hc A w γ _ hic (hargs.weaken hle)
  unfold Oper.wp
  have hrun : (execOp (⟨tmps.toArray, []⟩ : Act).eval o).run P w = .ok (.enter f (args.toList.map (⟨tmps.toArray, []⟩ : Act).eval ++ cvs).toArray) w := by
    simp only [execOp, ho, Go.resolve, hcv, Deferred.ofValue, Sem.run_bind, Sem.run_pure, Result.andThen_ok, invoke]
    rw [hent]
    congr 2
    exact Array.ext' (by simp)
  rw [hrun]
  refine hcall.mono ?_
  rintro e w' ⟨r, v, st', A', β', rfl, hq, hd, hi'⟩
  have hE : Ext A w A' w' := hi'.ext0
  have hP : Pre γ β' := fun j b hj => by
    refine hi'.pre j b ?_ hj
    obtain ⟨i1, s1, b1⟩ := hγ hj
    have hs1 := hst i1 (List.mem_of_getElem? s1)
    have hjl : j < cst.length := by rw [← hls.len]; simp only [selSt, List.length_map]; exact (List.getElem?_eq_some_iff.1 s1).1
    have hcj : cst[j]? = some cst[j] := List.getElem?_eq_getElem hjl
    show ((cst[j]?).map PObj.stays).getD false = true
    rw [hcj]
    obtain ⟨q, hq, hr⟩ := hls.get j _ hcj
    simp only [selSt, List.getElem?_map, s1, Option.map_some] at hq
    cases hq
    have hs2 : ((st.getD i1 .dead).ren (idxIn sel) 5).stays = true := by
      rw [← hs1]
      cases st.getD i1 .dead <;> rfl
    rcases hr with hr | hr | ⟨cs, ds, h1, h2, _⟩
    · rw [← hr]; exact hs2
    · rw [hr]; rfl
    · rw [h2]; rfl
  obtain ⟨hr1, hr2, hk⟩ := hK r st' hq
  have hlen' := hi'.len
  have hγl : γ.length = sel.length := by simp [γ]
  have hle : sel.length ≤ β'.length := by
    rcases Nat.lt_or_ge β'.length sel.length with h | h
    · exfalso
      have hx : γ[β'.length]? = some γ[β'.length] := List.getElem?_eq_getElem (by omega)
      have := hP _ _ hx
      simp at this
    · exact h
  -- the caller's blocks behind the call
  let δ : List Nat := β ++ β'.drop sel.length
  have hout : ∀ (j b : Nat), true = true → β'[j]? = some b → δ[idxOut sel st.length j]? = some b := by
    intro j b _ hb
    simp only [idxOut]
    split
    · rename_i hj
      have hs : sel[j]? = some sel[j] := List.getElem?_eq_getElem hj
      obtain ⟨b', hb'⟩ := hsb sel[j] (List.getElem_mem hj)
      have hγj : γ[j]? = some b' := by simp only [γ, List.getElem?_map, hs, Option.map_some, List.getD, hb', Option.getD_some]
      have := hP j b' hγj
      rw [hb] at this
      cases this
      simp only [List.getD, hs, Option.getD_some]
      exact Pre.snoc _ _ _ _ hb'
    · rename_i hj
      rw [List.getElem?_append_right (by omega), hlen, Nat.add_sub_cancel_left, List.getElem?_drop]
      rw [show sel.length + (j - sel.length) = j by omega]
      exact hb
  have hkeep : ∀ {i b : Nat}, β[i]? = some b → liveAt st i → i ∉ sel → w'.heap[b]? = w.heap[b]? := by
    intro i b hb hl hns
    refine hi'.keep b ((hi.obj i b _ hb hl.choose_spec.1).lt hl.choose_spec.2) (fun hm => ?_)
    obtain ⟨i1, s1, b1⟩ := hKsel hm
    have := hi.inj i i1 b hb b1 hl (hsl _ s1)
    subst this
    exact hns s1
  have hmget : ∀ {i : Nat} {x : PObj}, (merge sel st (st'.map (PObj.ren (idxOut sel st.length) 5)))[i]? = some x →
      (i < st.length ∧ i ∉ sel ∧ st[i]? = some x) ∨ (∃ j y, st'[j]? = some y ∧ x = y.ren (idxOut sel st.length) 5 ∧ i = idxOut sel st.length j ∧ (j < sel.length → sel[j]? = some i)) ∨ x = .dead := by
    intro i x h
    simp only [merge] at h
    by_cases hil : i < st.length
    · rw [List.getElem?_append_left (by rw [mergeAux_len]; exact hil), mergeAux_get, List.getElem?_eq_getElem hil, Nat.zero_add] at h
      simp only [Option.map_some] at h
      split at h
      · rename_i hcn
        have hm : i ∈ sel := by simpa using hcn
        have hlt := List.idxOf_lt_length_of_mem hm
        cases h
        cases hx : st'[sel.idxOf i]? with
        | none => right; right; simp [List.getD, hx]
        | some y =>
          right; left
          refine ⟨sel.idxOf i, y, hx, by simp [List.getD, hx], ?_, fun _ => by rw [List.getElem?_eq_getElem hlt, List.getElem_idxOf hlt]⟩
          simp only [idxOut, if_pos hlt, List.getD, List.getElem?_eq_getElem hlt, List.getElem_idxOf hlt, Option.getD_some]
      · rename_i hcn
        cases h
        left
        exact ⟨hil, by simpa using hcn, List.getElem?_eq_getElem hil⟩
    · rw [List.getElem?_append_right (by rw [mergeAux_len]; omega), mergeAux_len, List.getElem?_drop, List.getElem?_map] at h
      cases hx : st'[sel.length + (i - st.length)]? with
      | none => rw [hx] at h; cases h
      | some y =>
        rw [hx] at h
        cases h
        right; left
        refine ⟨_, y, hx, rfl, ?_, fun h => by omega⟩
        simp only [idxOut]
        rw [if_neg (by omega)]
        omega
  have hδget : ∀ {i b : Nat}, δ[i]? = some b → i < st.length → β[i]? = some b := fun {i b} h hl => by
    rw [List.getElem?_append_left (by omega)] at h; exact h
  have hAsub : ∀ b, A' b → A b ∨ (∃ i, i ∈ sel ∧ β[i]? = some b) ∨ w.heap.size ≤ b := fun b hb => (hi'.new b hb).imp_right (Or.imp_left hKsel)
  have hfin : Inv Gl B A' w' δ (merge sel st (st'.map (PObj.ren (idxOut sel st.length) 5))) := by
    have lv : ∀ {i b : Nat}, δ[i]? = some b → liveAt (merge sel st (st'.map (PObj.ren (idxOut sel st.length) 5))) i →
        (i ∉ sel ∧ β[i]? = some b ∧ liveAt st i ∧ b < w.heap.size) ∨ (∃ j y, st'[j]? = some y ∧ y.live = true ∧ i = idxOut sel st.length j ∧ β'[j]? = some b) := by
      intro i b hb ⟨x, hx, hl⟩
      rcases hmget hx with ⟨g1, g2, g3⟩ | ⟨j, y, g1, rfl, g3, g4⟩ | rfl
      · left
        have hbb := hδget hb g1
        exact ⟨g2, hbb, ⟨x, g3, hl⟩, (hi.obj i b x hbb g3).lt hl⟩
      · right
        have hjl : j < β'.length := by rw [hlen']; exact (List.getElem?_eq_some_iff.1 g1).1
        have hbj : β'[j]? = some β'[j] := List.getElem?_eq_getElem hjl
        have := hout j _ rfl hbj
        rw [← g3, hb] at this
        cases this
        exact ⟨j, y, g1, by rw [← hl, hrl], g3, hbj⟩
      · cases hl
    have cross : ∀ {i j b : Nat}, i ∉ sel → β[i]? = some b → liveAt st i → β'[j]? = some b → liveAt st' j → False := by
      intro i j b hns hb hl hbj hlj
      have hlt := (hi.obj i b _ hb hl.choose_spec.1).lt hl.choose_spec.2
      rcases hi'.own j b hbj hlj with h | h
      · obtain ⟨i1, s1, b1⟩ := hKsel h
        have := hi.inj i i1 b hb b1 hl (hsl _ s1)
        subst this
        exact hns s1
      · exact Nat.lt_irrefl _ (Nat.lt_of_lt_of_le hlt h)
    refine ⟨?_, ?_, ?_, ?_, ?_, hi'.lt, ?_, fun b hb => hE.sub b (hi.old b hb), Nat.le_trans hi.size hi'.size, hi'.os.trans hi.os, hi'.tape.trans hi.tape, hi'.output.trans hi.output, ?_, hi.glob, fun i b h1 h2 => Pre.snoc _ _ _ _ (hi.pre i b h1 h2), hi.apart⟩
    · simp only [δ, merge, List.length_append, List.length_drop, mergeAux_len, List.length_map]; omega
    · intro i k b h1 h2 l1 l2
      rcases lv h1 l1 with ⟨n1, b1, v1, _⟩ | ⟨j1, y1, s1, v1, e1, b1⟩ <;> rcases lv h2 l2 with ⟨n2, b2, v2, _⟩ | ⟨j2, y2, s2, v2, e2, b2⟩
      · exact hi.inj i k b b1 b2 v1 v2
      · exact (cross n1 b1 v1 b2 ⟨y2, s2, v2⟩).elim
      · exact (cross n2 b2 v2 b1 ⟨y1, s1, v1⟩).elim
      · rw [e1, e2, hi'.inj j1 j2 b b1 b2 ⟨y1, s1, v1⟩ ⟨y2, s2, v2⟩]
    · intro i b x h1 h2
      cases hxl : x.live with
      | false =>
        rcases hmget h2 with ⟨g1, g2, g3⟩ | ⟨j, y, g1, rfl, g3, g4⟩ | rfl
        · exact (hi.obj i b x (hδget h1 g1) g3).still hxl
        · have hjl : j < β'.length := by rw [hlen']; exact (List.getElem?_eq_some_iff.1 g1).1
          have hbj : β'[j]? = some β'[j] := List.getElem?_eq_getElem hjl
          have := hout j _ rfl hbj
          rw [← g3, h1] at this
          cases this
          exact (hi'.obj j _ y hbj g1).ren hout (List.all_eq_true.1 hr2 y (List.mem_of_getElem? g1))
        · trivial
      | true =>
        rcases hmget h2 with ⟨g1, g2, g3⟩ | ⟨j, y, g1, rfl, g3, g4⟩ | rfl
        · have hbb := hδget h1 g1
          exact (hi.obj i b x hbb g3).mono hE (Pre.snoc _ _) (hkeep hbb ⟨x, g3, hxl⟩ g2)
        · have hjl : j < β'.length := by rw [hlen']; exact (List.getElem?_eq_some_iff.1 g1).1
          have hbj : β'[j]? = some β'[j] := List.getElem?_eq_getElem hjl
          have := hout j _ rfl hbj
          rw [← g3, h1] at this
          cases this
          exact (hi'.obj j _ y hbj g1).ren hout (List.all_eq_true.1 hr2 y (List.mem_of_getElem? g1))
        · cases hxl
    · intro i b h1 l1 hA
      rcases lv h1 l1 with ⟨n1, b1, v1, hlt⟩ | ⟨j1, y1, s1, v1, e1, b1⟩
      · rcases hAsub b hA with h | h | h
        · exact hi.notA i b b1 v1 h
        · obtain ⟨i1, g1, b2⟩ := h
          have := hi.inj i i1 b b1 b2 v1 (hsl _ g1)
          subst this
          exact n1 g1
        · omega
      · exact hi'.notA j1 b b1 ⟨y1, s1, v1⟩ hA
    · intro i b h1 l1
      rcases lv h1 l1 with ⟨n1, b1, v1, hlt⟩ | ⟨j1, y1, s1, v1, e1, b1⟩
      · exact hi.own i b b1 v1
      · rcases hi'.own j1 b b1 ⟨y1, s1, v1⟩ with h | h
        · obtain ⟨i1, g1, b2⟩ := hKsel h
          exact hi.own i1 b b2 (hsl _ g1)
        · right; exact Nat.le_trans hi.size h
    · intro b hb
      rcases hAsub b hb with h | h | h
      · exact hi.new b h
      · obtain ⟨i1, g1, b2⟩ := h
        rcases hi.own i1 b b2 (hsl _ g1) with h | h
        · exact .inr (.inl h)
        · exact .inr (.inr h)
      · exact .inr (.inr (Nat.le_trans hi.size h))
    · intro b hb hk
      rw [hi'.keep b (Nat.lt_of_lt_of_le hb hi.size) (fun hm => ?_)]
      · exact hi.keep b hb hk
      · obtain ⟨i1, g1, b2⟩ := hKsel hm
        rcases hi.own i1 b b2 (hsl _ g1) with h | h
        · exact hk h
        · omega
  exact ⟨v, _, _, A', δ, rfl, hk, hd.ren hout 5 hr1, hfin, hE, Pre.snoc _ _⟩
end
end Go.Pw
namespace Go.Pw
open Go

section rules
variable {P : Program} {Gl : Glob} {B : Base} {tys : List TI} {env : List PV} {st : List PObj} {ops : Array Oper} {rest : List Oper} {o : Oper} {Q : Post}

theorem int_of {A : Nat → Prop} {w : World} {β : List Nat} {tmps : List Value} (he : EnvRel A w β env tmps) {x : Operand} {k : IntKind} {n : Int} (h : pe env x = .int k n) :
    (⟨tmps.toArray, []⟩ : Act).eval x = .int k n := by
  have := he.eval [] x
  rw [h] at this
  exact this.int_inv
theorem str_of {A : Nat → Prop} {w : World} {β : List Nat} {tmps : List Value} (he : EnvRel A w β env tmps) {x : Operand} {s : List UInt8} (h : pe env x = .str s) :
    (⟨tmps.toArray, []⟩ : Act).eval x = .string ⟨s.toArray⟩ := by
  have := he.eval [] x
  rw [h] at this
  exact this.str_inv

def arithI (op : BinOp) (a b : Int) : Option Int :=
  match op with
  | .add => some (a + b)
  | .sub => some (a - b)
  | .mul => some (a * b)
  | _ => none

theorem v_arith {op : BinOp} {t t' : TypeId} {x y : Operand} {k : IntKind} {a b r c : Int} (ho : o.op = .binOp op t x y t') (ha : pe env x = .int k a) (hb : pe env y = .int k b) (hr : arithI op a b = some r)
    (hc : k.wrap r = c) : OpV P Gl B o env (.int k c) := fun _ A w β tmps _ he => by
  refine ⟨.int k c, ?_, .int ..⟩
  subst hc
  simp only [execOp, ho, int_of he ha, int_of he hb, Sem.run_bind]
  unfold arithI at hr
  split at hr <;> cases hr <;> simp [eqGuard, binOp, Op.intArith]

theorem v_quo {t t' : TypeId} {x y : Operand} {k : IntKind} {a b c : Int} (ho : o.op = .binOp .quo t x y t') (ha : pe env x = .int k a) (hb : pe env y = .int k b) (h0 : b ≠ 0)
    (hc : k.wrap (a.tdiv b) = c) : OpV P Gl B o env (.int k c) := fun _ A w β tmps _ he => by
  refine ⟨.int k c, ?_, .int ..⟩
  subst hc
  simp [execOp, ho, int_of he ha, int_of he hb, eqGuard, binOp, Op.intDiv, h0]

theorem v_rem {t t' : TypeId} {x y : Operand} {k : IntKind} {a b c : Int} (ho : o.op = .binOp .rem t x y t') (ha : pe env x = .int k a) (hb : pe env y = .int k b) (h0 : b ≠ 0)
    (hc : a.tmod b = c) : OpV P Gl B o env (.int k c) := fun _ A w β tmps _ he => by
  refine ⟨.int k c, ?_, .int ..⟩
  subst hc
  simp [execOp, ho, int_of he ha, int_of he hb, eqGuard, binOp, Op.intDiv, h0]

theorem v_shl {t t' : TypeId} {x y : Operand} {k k' : IntKind} {a b c : Int} (ho : o.op = .binOp .shl t x y t') (ha : pe env x = .int k a) (hb : pe env y = .int k' b) (h0 : 0 ≤ b)
    (hc : k.wrap (a * 2 ^ (min b.toNat k.bits)) = c) : OpV P Gl B o env (.int k c) := fun _ A w β tmps _ he => by
  refine ⟨.int k c, ?_, .int ..⟩
  subst hc
  have : ¬ b < 0 := by omega
  simp [execOp, ho, int_of he ha, int_of he hb, eqGuard, binOp, Op.shift, this]

theorem v_shr {t t' : TypeId} {x y : Operand} {k k' : IntKind} {a b c : Int} (ho : o.op = .binOp .shr t x y t') (ha : pe env x = .int k a) (hb : pe env y = .int k' b) (h0 : 0 ≤ b)
    (hc : a.fdiv (2 ^ (min b.toNat k.bits)) = c) : OpV P Gl B o env (.int k c) := fun _ A w β tmps _ he => by
  refine ⟨.int k c, ?_, .int ..⟩
  subst hc
  have : ¬ b < 0 := by omega
  simp [execOp, ho, int_of he ha, int_of he hb, eqGuard, binOp, Op.shift, this]

def bitsI (op : BinOp) (k : IntKind) (a b : Int) : Option Int :=
  match op with
  | .and => some (k.wrap (BitVec.ofInt k.bits a &&& BitVec.ofInt k.bits b).toNat)
  | .or => some (k.wrap (BitVec.ofInt k.bits a ||| BitVec.ofInt k.bits b).toNat)
  | .xor => some (k.wrap (BitVec.ofInt k.bits a ^^^ BitVec.ofInt k.bits b).toNat)
  | .andNot => some (k.wrap (BitVec.ofInt k.bits a &&& ~~~ BitVec.ofInt k.bits b).toNat)
  | _ => none
theorem v_bits {op : BinOp} {t t' : TypeId} {x y : Operand} {k : IntKind} {a b r c : Int} (ho : o.op = .binOp op t x y t') (ha : pe env x = .int k a) (hb : pe env y = .int k b) (hr : bitsI op k a b = some r)
    (hc : r = c) : OpV P Gl B o env (.int k c) := fun _ A w β tmps _ he => by
  refine ⟨.int k c, ?_, .int ..⟩
  subst hc
  simp only [execOp, ho, int_of he ha, int_of he hb, Sem.run_bind]
  unfold bitsI at hr
  split at hr <;> cases hr <;> simp [eqGuard, binOp, Op.intBits]

theorem v_neg {t : TypeId} {x : Operand} {k : IntKind} {a c : Int} (ho : o.op = .unOp .neg t x) (ha : pe env x = .int k a) (hc : k.wrap (0 - a) = c) : OpV P Gl B o env (.int k c) := fun _ A w β tmps _ he => by
  refine ⟨.int k c, ?_, .int ..⟩
  subst hc
  simp [execOp, ho, int_of he ha, Op.unary, Op.intArith]

theorem tkOf_int {d : TypeDesc} {k : IntKind} (h : TK.int k = tkOf P d) : d = .int k := by
  cases d <;> simp only [tkOf] at h <;> first | (cases h; done) | (cases h; rfl) | skip
  all_goals (split at h <;> cases h)
theorem v_conv {s t : TypeId} {x : Operand} {k k' : IntKind} {a c : Int} (hT : Tys P tys) (ho : o.op = .convert s t x) (ha : pe env x = .int k' a) {si : TI} (hs : tys[s]? = some si) {z1 z2 : Nat} {z3 : Option (List PV)} (ht : tys[t]? = some ⟨.int k, z1, z2, z3⟩)
    (hc : k.wrap a = c) : OpV P Gl B o env (.int k c) := fun _ A w β tmps _ he => by
  refine ⟨.int k c, ?_, .int ..⟩
  subst hc
  obtain ⟨i, d, hi1, hu, htk, _⟩ := tyOf_spec (hT _ _ ht)
  obtain ⟨i', d', hi1', hu', _⟩ := tyOf_spec (hT _ _ hs)
  have := tkOf_int htk
  subst this
  simp only [execOp, ho, int_of he ha, Go.convert, Sem.run_bind, run_underlying hu, run_underlying hu', Result.andThen_ok]
  simp [Conv.intToInt]

theorem v_concat {t t' : TypeId} {x y : Operand} {a b : List UInt8} (ho : o.op = .binOp .add t x y t') (ha : pe env x = .str a) (hb : pe env y = .str b)
    (hl : a.length + b.length ≤ 9223372036854775807) : OpV P Gl B o env (.str (a ++ b)) := fun _ A w β tmps _ he => by
  refine ⟨.string ⟨(a ++ b).toArray⟩, ?_, .str ..⟩
  have hm : IntKind.i64.max = 9223372036854775807 := by decide
  have h1 : ¬ (((a.length + b.length : Nat) : Int) > IntKind.i64.max) := by rw [hm]; omega
  have h2 : (⟨a.toArray⟩ : ByteArray) ++ (⟨b.toArray⟩ : ByteArray) = ⟨(a ++ b).toArray⟩ := by
    apply ByteArray.ext
    simp
  simp only [execOp, ho, str_of he ha, str_of he hb, Sem.run_bind]
  simp only [eqGuard, binOp, Op.stringOp, ByteArray.size, List.size_toArray, if_neg h1, h2]
  simp

/-! ### indexes -/
theorem tkOf_sl' {d : TypeDesc} {e s by_ : Nat} (h : TK.sl e s by_ = tkOf P d) : d = .slice e ∧ szOf P e = some s := by
  obtain ⟨h1, i, h2, h3, _⟩ := tkOf_sl h
  exact ⟨h1, by simp [szOf, h2, h3]⟩

theorem v_index {t : TypeId} {x y : Operand} {xs : List PV} {k : IntKind} {i : Int} {p : PV} (hT : Tys P tys) (ho : o.op = .indexAddr t x y) {e s b z1 z2 : Nat} {z3 : Option (List PV)} (ht : tys[t]? = some ⟨.sl e s b, z1, z2, z3⟩)
    (hx : pe env x = .sl xs) (hy : pe env y = .int k i) (h0 : 0 ≤ i) (hp : xs[i.toNat]? = some p) (hs : p.cells.length = s) : OpV P Gl B o env (.vptr p.cells) := fun _ A w β tmps _ he => by
  obtain ⟨ti, d, hi1, hu, htk, _⟩ := tyOf_spec (hT _ _ ht)
  obtain ⟨rfl, hse⟩ := tkOf_sl' htk
  have hd := he.eval [] x
  rw [hx] at hd
  have hlt : i.toNat < xs.length := (List.getElem?_eq_some_iff.1 hp).1
  have hi : i = (i.toNat : Int) := by omega
  generalize hv : (⟨tmps.toArray, []⟩ : Act).eval x = v at hd
  cases hd with
  | slnil => simp at hlt
  | sl _ kk _ a cap f h1 h2 h3 h4 h5 h6 =>
    have hne : xs ≠ [] := by rintro rfl; simp at hlt
    obtain ⟨hA, hsp⟩ := h1 hne
    have hkk : kk = s := by rw [← h4 p (List.mem_of_getElem? hp)]; exact hs
    subst hkk
    obtain ⟨ab, ao, asp⟩ := a
    simp only at hA hsp h5
    subst hsp
    refine ⟨.pointer (some ⟨ab, ao + i.toNat * kk, none⟩), ?_, .vptr _ _ _ _ (f i.toNat) hA (fun j c hc => ?_) (fun j c hc => h6 _ _ _ _ hp hc)⟩
    · simp only [execOp, ho, int_of he hy, hv, Instr.indexAt, asIntOf, Sem.run_bind, Sem.run_pure, Result.andThen_ok, run_underlying hu]
      have hc : 0 ≤ i ∧ i < ((xs.length : Nat) : Int) := ⟨h0, by omega⟩
      simp only [Sem.run_pure, Result.andThen_ok, if_pos hc, Sem.run_bind, run_size hse, addr_add]
    · rw [Nat.add_assoc]; exact h5 _ _ _ _ hp hc

theorem v_indexm {t : TypeId} {x y : Operand} {kk j off n cap : Nat} {k : IntKind} {i : Int} (hT : Tys P tys) (ho : o.op = .indexAddr t x y) {e s b z1 z2 : Nat} {z3 : Option (List PV)} (ht : tys[t]? = some ⟨.sl e s b, z1, z2, z3⟩)
    (hx : pe env x = .msl kk j off n cap) (hk : kk = s) (hy : pe env y = .int k i) (h0 : 0 ≤ i) (h1 : i < n) (hcap : cap ≠ 0) : OpV P Gl B o env (.eptr kk j (off + i.toNat) 0) := fun _ A w β tmps _ he => by
  obtain ⟨ti, d, hi1, hu, htk, _⟩ := tyOf_spec (hT _ _ ht)
  obtain ⟨rfl, hse⟩ := tkOf_sl' htk
  have hd := he.eval [] x
  rw [hx] at hd
  obtain ⟨bb, hb, hv⟩ := hd.msl_inv hcap
  subst hk
  refine ⟨.pointer (some ⟨bb, (off + i.toNat) * kk + 0, none⟩), ?_, .eptr _ _ _ _ _ _ hb⟩
  simp only [execOp, ho, int_of he hy, hv, Instr.indexAt, asIntOf, Sem.run_bind, Sem.run_pure, Result.andThen_ok, run_underlying hu]
  have hc : 0 ≤ i ∧ i < ((n : Nat) : Int) := ⟨h0, h1⟩
  simp only [Sem.run_pure, Result.andThen_ok, if_pos hc, Sem.run_bind, run_size hse, addr_add, Nat.add_mul, Nat.add_zero]

theorem v_indexs {t : TypeId} {x y : Operand} {s : List UInt8} {k : IntKind} {i : Int} {c : UInt8} (hT : Tys P tys) (ho : o.op = .index t x y) {z1 z2 : Nat} {z3 : Option (List PV)} (ht : tys[t]? = some ⟨.str, z1, z2, z3⟩)
    (hx : pe env x = .str s) (hy : pe env y = .int k i) (h0 : 0 ≤ i) (hp : s[i.toNat]? = some c) : OpV P Gl B o env (.int .u8 c.toNat) := fun _ A w β tmps _ he => by
  obtain ⟨ti, d, hi1, hu, htk, _⟩ := tyOf_spec (hT _ _ ht)
  have := tkOf_str htk
  subst this
  refine ⟨_, ?_, .int ..⟩
  have hb : (⟨s.toArray⟩ : ByteArray)[i.toNat]? = some c := by
    have hlt : i.toNat < s.length := (List.getElem?_eq_some_iff.1 hp).1
    have hlt' : i.toNat < (⟨s.toArray⟩ : ByteArray).size := by simpa [ByteArray.size] using hlt
    rw [getElem?_pos (⟨s.toArray⟩ : ByteArray) i.toNat hlt']
    rw [List.getElem?_eq_getElem hlt] at hp
    cases hp
    rfl
  simp only [execOp, ho, int_of he hy, str_of he hx, Instr.index, asIntOf, Sem.run_bind, Sem.run_pure, Result.andThen_ok, run_underlying hu, if_pos h0, hb]

/-! ### parts of strings and slices -/
def bnd (env : List PV) (d : Nat) : Option Operand → Option Int
  | none => some d
  | some x => match pe env x with
    | .int _ n => some n
    | _ => none

theorem run_bounds {A : Nat → Prop} {w : World} {β : List Nat} {tmps : List Value} (he : EnvRel A w β env tmps) {lo hi : Option Operand} {n cap : Nat} {l h : Int} (isS : Bool) (hl : bnd env 0 lo = some l) (hh : bnd env n hi = some h) (h0 : 0 ≤ l) (h1 : l ≤ h)
    (h2 : h ≤ cap) : (Instr.sliceBounds isS n cap (lo.map (⟨tmps.toArray, []⟩ : Act).eval) (hi.map (⟨tmps.toArray, []⟩ : Act).eval) none).run P w = .ok (l.toNat, h.toNat, cap) w := by
  unfold Instr.sliceBounds
  simp only [Sem.run_bind, Sem.run_pure, Result.andThen_ok, Option.isSome_none, Bool.false_eq_true, if_false]
  have bound : ∀ (x : Operand) (y : Nat) (code : BoundsCode) (z : Int), bnd env 0 (some x) = some z → 0 ≤ z → z ≤ y → (Instr.sliceBound ((⟨tmps.toArray, []⟩ : Act).eval x) y code).run P w = .ok z.toNat w := by
    intro x y code z hz h0 h1
    simp only [bnd] at hz
    split at hz
    · rename_i kx n' hx
      cases hz
      simp only [Instr.sliceBound, int_of he hx, asIntOf, Sem.run_bind, Sem.run_pure, Result.andThen_ok, if_pos (And.intro h0 h1)]
    · cases hz
  have hib : ∀ x, bnd env n (some x) = bnd env 0 (some x) := fun x => rfl
  cases hi with
  | none =>
    simp only [bnd] at hh
    cases hh
    cases lo with
    | none => simp only [bnd] at hl; cases hl; simp
    | some x => simp [bound x n _ l hl h0 h1]
  | some y =>
    have hy : bnd env 0 (some y) = some h := by rw [← hib]; exact hh
    simp only [Option.map_some, Sem.run_bind, Result.andThen_ok, bound y cap _ h hy (by omega) h2]
    cases lo with
    | none => simp only [bnd] at hl; cases hl; simp
    | some x => simp [bound x h.toNat _ l hl h0 (by omega)]

theorem v_substr {t : TypeId} {x : Operand} {lo hi : Option Operand} {s : List UInt8} {l h : Int} (hT : Tys P tys) (ho : o.op = .slice t x lo hi none) {z1 z2 : Nat} {z3 : Option (List PV)} (ht : tys[t]? = some ⟨.str, z1, z2, z3⟩)
    (hx : pe env x = .str s) (hl : bnd env 0 lo = some l) (hh : bnd env s.length hi = some h) (h0 : 0 ≤ l) (h1 : l ≤ h) (h2 : h ≤ s.length) : OpV P Gl B o env (.str ((s.take h.toNat).drop l.toNat)) := fun _ A w β tmps _ he => by
  obtain ⟨ti, d, hi1, hu, htk, _⟩ := tyOf_spec (hT _ _ ht)
  have := tkOf_str htk
  subst this
  refine ⟨_, ?_, .str ..⟩
  have hb := run_bounds (P := P) (w := w) he (lo := lo) (hi := hi) (n := s.length) (cap := s.length) false hl hh h0 h1 h2
  have he' : (⟨s.toArray⟩ : ByteArray).extract l.toNat h.toNat = ⟨((s.take h.toNat).drop l.toNat).toArray⟩ := by
    apply ByteArray.ext
    rw [ByteArray.data_extract, List.extract_toArray, List.extract_eq_drop_take']
  simp only [execOp, ho, Instr.sliceAt, str_of he hx, Sem.run_bind, run_underlying hu, Result.andThen_ok, Instr.slice, Option.map_none, Option.isSome_none, Bool.false_eq_true, if_false]
  simp only [ByteArray.size, List.size_toArray, hb, Result.andThen_ok, Sem.run_pure, he']

theorem v_slice {t : TypeId} {x : Operand} {lo hi : Option Operand} {xs : List PV} {l h : Int} (hT : Tys P tys) (ho : o.op = .slice t x lo hi none) {e s b z1 z2 : Nat} {z3 : Option (List PV)} (ht : tys[t]? = some ⟨.sl e s b, z1, z2, z3⟩)
    (hx : pe env x = .sl xs) (hl : bnd env 0 lo = some l) (hh : bnd env xs.length hi = some h) (h0 : 0 ≤ l) (h1 : l ≤ h) (h2 : h ≤ xs.length) (hs : ∀ x ∈ xs, x.cells.length = s) : OpV P Gl B o env (.sl ((xs.take h.toNat).drop l.toNat)) := fun _ A w β tmps _ he => by
  obtain ⟨ti, d, hi1, hu, htk, _⟩ := tyOf_spec (hT _ _ ht)
  obtain ⟨rfl, hse⟩ := tkOf_sl' htk
  have hd := he.eval [] x
  rw [hx] at hd
  generalize hv : (⟨tmps.toArray, []⟩ : Act).eval x = v at hd
  have hlen : ((xs.take h.toNat).drop l.toNat).length = h.toNat - l.toNat := by simp; omega
  cases hd with
  | slnil =>
    have hb := run_bounds (P := P) (w := w) he (lo := lo) (hi := hi) (n := 0) (cap := 0) true hl hh h0 h1 (by simpa using h2)
    have hh0 : h.toNat = 0 := by simp at h2; omega
    have hl0 : l.toNat = 0 := by omega
    refine ⟨.slice none 0 0, ?_, by simpa using Den.slnil β⟩
    simp only [execOp, ho, Instr.sliceAt, hv, Sem.run_bind, run_underlying hu, Result.andThen_ok, Instr.slice, Option.map_none]
    simp only [hb, Result.andThen_ok, run_size hse, Sem.run_pure, hh0, hl0]
    simp
  | sl _ kk _ a cap f g1 g2 g3 g4 g5 g6 =>
    have hb := run_bounds (P := P) (w := w) he (lo := lo) (hi := hi) (n := xs.length) (cap := cap) true hl hh h0 h1 (by omega)
    have hr : (execOp (⟨tmps.toArray, []⟩ : Act).eval o).run P w = .ok (.value (.slice (some (if cap = l.toNat then a else a.add (l.toNat * s))) (h.toNat - l.toNat) (cap - l.toNat))) w := by
      simp only [execOp, ho, Instr.sliceAt, hv, Sem.run_bind, run_underlying hu, Result.andThen_ok, Instr.slice, Option.map_none]
      simp only [hb, Result.andThen_ok, run_size hse, Sem.run_pure, Option.map_some]
      split <;> rfl
    refine ⟨_, hr, ?_⟩
    rw [← hlen]
    refine .sl _ s _ _ _ (fun i j => f (i + l.toNat) j) (fun hne => ?_) (by rw [hlen]; omega) (by omega) (fun x hxm => hs x (List.mem_of_mem_take (List.mem_of_mem_drop hxm))) (fun i x j c hxi hc => ?_) (fun i x j c hxi hc => ?_)
    · have hne' : xs ≠ [] := by rintro rfl; simp at hne
      obtain ⟨q1, q2⟩ := g1 hne'
      split
      · exact ⟨q1, q2⟩
      · unfold Addr.add
        split
        · exact ⟨q1, q2⟩
        · exact ⟨q1, rfl⟩
    · rw [List.getElem?_drop, List.getElem?_take] at hxi
      split at hxi
      · rename_i hlt
        have hkk : kk = s := by rw [← g4 x (List.mem_of_getElem? hxi)]; exact hs x (List.mem_of_getElem? hxi)
        subst hkk
        have hxl := (List.getElem?_eq_some_iff.1 hxi).1
        have hne' : xs ≠ [] := by rintro rfl; simp at hxl
        obtain ⟨q1, q2⟩ := g1 hne'
        have := g5 _ _ _ _ hxi hc
        rw [if_neg (by omega)]
        have ha : a.add (l.toNat * kk) = ⟨a.block, a.off + l.toNat * kk, none⟩ := by
          obtain ⟨ab, ao, asp⟩ := a
          simp only at q2
          subst q2
          exact addr_add _ _ _
        rw [ha]
        simp only
        rw [Nat.add_comm i l.toNat, ← this]
        congr 2
        rw [Nat.add_mul]; omega
      · cases hxi
    · rw [List.getElem?_drop, List.getElem?_take] at hxi
      split at hxi
      · have := g6 _ _ _ _ hxi hc
        rwa [Nat.add_comm i l.toNat]
      · cases hxi

/-- Frames and stores written out anew. -/
def forceSt {α : Type} : List PObj → (List PObj → α) → α
  | [], k => k []
  | x :: xs, k => match x with
    | .box cs => forceL cs fun cs => forceSt xs fun ys => k (.box cs :: ys)
    | .arr kk l cap => forceSt xs fun ys => k (.arr kk l cap :: ys)
    | .dead => forceSt xs fun ys => k (.dead :: ys)
    | .map es => forceSt xs fun ys => k (.map es :: ys)
theorem forceSt_eq {α : Type} : ∀ (l : List PObj) (k : List PObj → α), forceSt l k = k l
  | [], k => rfl
  | x :: xs, k => by cases x <;> simp [forceSt, forceL_eq, forceSt_eq xs]
theorem pl_norm {env' : List PV} {st' : List PObj} (h : (forceL env fun e => forceSt st fun s => some (e, s)) = some (env', st')) (hr : PWL P Gl B ops rest env' st' Q) : PWL P Gl B ops rest env st Q := by
  rw [forceL_eq, forceSt_eq] at h
  cases h
  exact hr
theorem pw_norm {c : Code} {env' : List PV} {st' : List PObj} (h : (forceL env fun e => forceSt st fun s => some (e, s)) = some (env', st')) (hr : PW P Gl B c env' st' Q) : PW P Gl B c env st Q := by
  rw [forceL_eq, forceSt_eq] at h
  cases h
  exact hr

theorem pw_condT {c : Operand} {x y : Code} (hc : pe env c = .bool true) (h : PW P Gl B x env st Q) : PW P Gl B (.cond c x y) env st Q := pw_cond hc (fun _ => h) (fun h => by cases h)
theorem pw_condF {c : Operand} {x y : Code} (hc : pe env c = .bool false) (h : PW P Gl B y env st Q) : PW P Gl B (.cond c x y) env st Q := pw_cond hc (fun h => by cases h) (fun _ => h)
/-- A test whose outcome is known. -/
theorem pw_condB {c : Operand} {x y : Code} {b : Bool} (hc : pe env c = .bool b) (b' : Bool) (hb : b = b') (h : PW P Gl B (if b' then x else y) env st Q) : PW P Gl B (.cond c x y) env st Q := by
  subst hb
  exact pw_cond hc (fun hb => by rw [hb] at h; exact h) (fun hb => by rw [hb] at h; exact h)
theorem wrap_i64 {n : Int} (h1 : -9223372036854775808 ≤ n) (h2 : n ≤ 9223372036854775807) : IntKind.i64.wrap n = n := IntWalk.i64_in n ⟨h1, h2⟩
end rules
end Go.Pw
