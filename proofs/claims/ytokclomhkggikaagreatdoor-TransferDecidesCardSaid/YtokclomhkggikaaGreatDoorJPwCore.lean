/-
 A layer of its own over the walk: pure values for Go's values, a store of owned objects, and their relation to the model's worlds; a weakest precondition over pure states. Nothing here speaks of one program.
-/
import Derived.WalkKit
import Derived.Orders
namespace Go.Pw
open Go
inductive PV where
 | any
 | bool (b : Bool)
 | int (k : IntKind) (n : Int)
 | str (s : List UInt8)
 | nilptr
 | ptr (i off : Nat)
 | eptr (k i e off : Nat)
 | gptr (g off : Nat)
 | vptr (cs : List PV)
 | nilsl
 | sl (xs : List PV)
 | msl (k i off len cap : Nat)
 | nilmap
 | map (i : Nat)
 | nilfn
 | fn (f : FuncId) (caps : List PV)
 | bfn (f : FuncId) (first : List PV)
 | niliface
 | iface (t : TypeId) (v : PV)
 | agg (cs : List PV)
 | tup (vs : List PV)
 deriving Inhabited
def PV.cells : PV → List PV
 | .agg cs => cs
 | v => [v]
def PV.one : PV → Bool
 | .any | .agg _ | .tup _ => false
 | _ => true
inductive PObj where
 | dead
 | box (cs : List PV)
 | arr (k : Nat) (xs : List PV) (cap : Nat)
 | map (es : List (List UInt8 × PV))
 | kmap (es : List (Nat × PV × PV)) (clock : Nat)
 | iter (m : Option Nat) (since : Nat) (seen : List Nat) (last : Nat)
 deriving Inhabited
def PObj.live : PObj → Bool
 | .dead => false
 | .arr _ _ 0 => false
 | _ => true
def liveAt (st : List PObj) (i : Nat) : Prop := ∃ o, st[i]? = some o ∧ o.live = true
inductive Den (A : Nat → Prop) (w : World) : List Nat → PV → Value → Prop
 | any (β v) : Den A w β .any v
 | bool (β b) : Den A w β (.bool b) (.bool b)
 | int (β k n) : Den A w β (.int k n) (.int k n)
 | str (β s) : Den A w β (.str s) (.string ⟨s.toArray⟩)
 | nilptr (β) : Den A w β .nilptr (.pointer none)
 | ptr (β i off b) : β[i]? = some b → Den A w β (.ptr i off) (.pointer (some ⟨b, off, none⟩))
 | eptr (β k i e off b) : β[i]? = some b → Den A w β (.eptr k i e off) (.pointer (some ⟨b, e * k + off, none⟩))
 | gptr (β g off) : Den A w β (.gptr g off) (.pointer (some ⟨g, off, none⟩))
 | vptr (β b off cs) (f : Nat → Value) : A b → (∀ (j : Nat) c, cs[j]? = some c → w.cell? ⟨b, off + j, none⟩ = some (f j)) → (∀ (j : Nat) c, cs[j]? = some c → Den A w [] c (f j)) →
   Den A w β (.vptr cs) (.pointer (some ⟨b, off, none⟩))
 | nilsl (β) : Den A w β .nilsl (.slice none 0 0)
 | slnil (β) : Den A w β (.sl []) (.slice none 0 0)
 | sl (β k xs) (a : Addr) (cap : Nat) (f : Nat → Nat → Value) : (xs ≠ [] → A a.block ∧ a.spot = none) → xs.length ≤ cap → cap ≤ maxLen → (∀ x ∈ xs, x.cells.length = k) →
   (∀ (i : Nat) x (j : Nat) c, xs[i]? = some x → x.cells[j]? = some c → w.cell? ⟨a.block, a.off + (i * k + j), none⟩ = some (f i j)) →
   (∀ (i : Nat) x (j : Nat) c, xs[i]? = some x → x.cells[j]? = some c → Den A w [] c (f i j)) →
   Den A w β (.sl xs) (.slice (some a) xs.length cap)
 | msl (β k i off len cap b) : β[i]? = some b → Den A w β (.msl k i off len cap) (.slice (some ⟨b, off * k, none⟩) len cap)
 | mslnil (β k i off) (a : Option Addr) : Den A w β (.msl k i off 0 0) (.slice a 0 0)
 | nilmap (β) : Den A w β .nilmap (.map none)
 | map (β i b) : β[i]? = some b → Den A w β (.map i) (.map (some b))
 | nilfn (β) : Den A w β .nilfn .nilFunc
 | fn (β f cs) (vs : List Value) : cs.length = vs.length → (∀ (j : Nat) c v, cs[j]? = some c → vs[j]? = some v → Den A w β c v) → Den A w β (.fn f cs) (.func (.func f) #[] vs.toArray)
 | bfn (β f cs) (vs : List Value) : cs.length = vs.length → (∀ (j : Nat) c v, cs[j]? = some c → vs[j]? = some v → Den A w β c v) → Den A w β (.bfn f cs) (.func (.func f) vs.toArray #[])
 | niliface (β) : Den A w β .niliface .nilIface
 | iface (β t v u) : Den A w β v u → Den A w β (.iface t v) (.iface t u)
 | agg (β cs) (vs : List Value) : cs.length = vs.length → (∀ (j : Nat) c v, cs[j]? = some c → vs[j]? = some v → Den A w β c v) → Den A w β (.agg cs) (.agg vs.toArray)
 | tup (β cs) (vs : List Value) : cs.length = vs.length → (∀ (j : Nat) c v, cs[j]? = some c → vs[j]? = some v → Den A w β c v) → Den A w β (.tup cs) (.tuple vs.toArray)
structure Ext (A : Nat → Prop) (w : World) (A' : Nat → Prop) (w' : World) : Prop where
 sub : ∀ b, A b → A' b
 same : ∀ b, A b → w'.heap[b]? = w.heap[b]?
def Pre (β β' : List Nat) : Prop := ∀ (i b : Nat), β[i]? = some b → β'[i]? = some b
theorem Ext.refl (A : Nat → Prop) (w : World) : Ext A w A w := ⟨fun _ h => h, fun _ _ => rfl⟩
theorem Ext.trans {A A' A'' : Nat → Prop} {w w' w'' : World} (h : Ext A w A' w') (k : Ext A' w' A'' w'') : Ext A w A'' w'' :=
 ⟨fun b hb => k.sub b (h.sub b hb), fun b hb => (k.same b (h.sub b hb)).trans (h.same b hb)⟩
theorem Pre.refl (β : List Nat) : Pre β β := fun _ _ h => h
theorem Pre.trans {β β' β'' : List Nat} (h : Pre β β') (k : Pre β' β'') : Pre β β'' := fun i b hb => k i b (h i b hb)
theorem Pre.snoc (β : List Nat) (l : List Nat) : Pre β (β ++ l) := fun i b h => by
 rw [List.getElem?_append_left (by rcases List.getElem?_eq_some_iff.1 h with ⟨h, _⟩; exact h)]; exact h
theorem Pre.nil (β : List Nat) : Pre [] β := fun i b h => by simp at h
theorem cell_same {w w' : World} {b : Nat} (h : w'.heap[b]? = w.heap[b]?) (off : Nat) : w'.cell? ⟨b, off, none⟩ = w.cell? ⟨b, off, none⟩ := by
 simp only [World.cell?, h]
theorem Den.mono {A A' : Nat → Prop} {w w' : World} {β : List Nat} {p : PV} {v : Value} (h : Den A w β p v) (e : Ext A w A' w') :
  ∀ {β' : List Nat}, Pre β β' → Den A' w' β' p v := by
 induction h with
 | any => intros; exact .any ..
 | bool => intros; exact .bool ..
 | int => intros; exact .int ..
 | str => intros; exact .str ..
 | nilptr => intros; exact .nilptr ..
 | ptr β i off b hb => intro β' hβ; exact .ptr _ _ _ _ (hβ _ _ hb)
 | eptr β k i e off b hb => intro β' hβ; exact .eptr _ _ _ _ _ _ (hβ _ _ hb)
 | gptr => intros; exact .gptr ..
 | vptr β b off cs f hA hc hd ih =>
  intro β' hβ
  exact .vptr _ _ _ _ f (e.sub _ hA) (fun j c h => by rw [cell_same (e.same _ hA)]; exact hc j c h) (fun j c h => ih j c h (Pre.refl _))
 | nilsl => intros; exact .nilsl ..
 | slnil => intros; exact .slnil ..
 | sl β k xs a cap f hA hl hm hk hc hd ih =>
  intro β' hβ
  refine .sl _ k _ _ _ f (fun h => ⟨e.sub _ (hA h).1, (hA h).2⟩) hl hm hk (fun i x j c hx h => ?_) (fun i x j c hx h => ih i x j c hx h (Pre.refl _))
  have hne : xs ≠ [] := by rintro rfl; simp at hx
  rw [cell_same (e.same _ (hA hne).1)]; exact hc i x j c hx h
 | msl β k i off len cap b hb => intro β' hβ; exact .msl _ _ _ _ _ _ _ (hβ _ _ hb)
 | mslnil => intros; exact .mslnil ..
 | nilmap => intros; exact .nilmap ..
 | map β i b hb => intro β' hβ; exact .map _ _ _ (hβ _ _ hb)
 | nilfn => intros; exact .nilfn ..
 | fn β f cs vs hl hd ih => intro β' hβ; exact .fn _ _ _ _ hl (fun j c v h1 h2 => ih j c v h1 h2 hβ)
 | bfn β f cs vs hl hd ih => intro β' hβ; exact .bfn _ _ _ _ hl (fun j c v h1 h2 => ih j c v h1 h2 hβ)
 | niliface => intros; exact .niliface ..
 | iface β t v u hd ih => intro β' hβ; exact .iface _ _ _ _ (ih hβ)
 | agg β cs vs hl hd ih => intro β' hβ; exact .agg _ _ _ hl (fun j c v h1 h2 => ih j c v h1 h2 hβ)
 | tup β cs vs hl hd ih => intro β' hβ; exact .tup _ _ _ hl (fun j c v h1 h2 => ih j c v h1 h2 hβ)
def keyV1 : PV → Option Value
 | .int k n => some (.int k n)
 | .bool b => some (.bool b)
 | .str s => some (.string ⟨s.toArray⟩)
 | _ => none
def keyVs : List PV → Option (List Value)
 | [] => some []
 | p :: l => match keyV1 p, keyVs l with
  | some v, some vs => some (v :: vs)
  | _, _ => none
def keyV : PV → Option Value
 | .agg cs => match keyVs cs with
  | some vs => some (.agg vs.toArray)
  | none => none
 | p => keyV1 p
def ObjRel (A : Nat → Prop) (β : List Nat) (w : World) (b : Nat) : PObj → Prop
 | .dead => True
 | .box cs => ∃ (vs : List Value) (T : TypeId) (fr : Nat × Nat), w.heap[b]? = some (.cells vs.toArray T fr) ∧ vs.length = cs.length ∧ (∀ j, j < cs.length → ¬ (fr.1 ≤ j ∧ j < fr.2)) ∧
   ∀ (j : Nat) c v, cs[j]? = some c → vs[j]? = some v → Den A w β c v
 | .arr k xs cap => xs.length ≤ cap ∧ cap ≤ maxLen ∧ (∀ x ∈ xs, x.cells.length = k) ∧ (cap ≠ 0 → ∃ (vs : List Value) (T : TypeId) (fr : Nat × Nat), w.heap[b]? = some (.cells vs.toArray T fr) ∧ vs.length = cap * k ∧ (∀ j, j < cap * k → ¬ (fr.1 ≤ j ∧ j < fr.2)) ∧
   ∀ (i : Nat) x (j : Nat) c, xs[i]? = some x → x.cells[j]? = some c → ∃ v, vs[i * k + j]? = some v ∧ Den A w [] c v)
 | .map es => ∃ (mes : List MapEntry) (clock : Nat), w.heap[b]? = some (.map mes.toArray clock) ∧ mes.length = es.length ∧ ∀ (j : Nat) k v, es[j]? = some (k, v) → ∃ e, mes[j]? = some e ∧ e.key = .string ⟨k.toArray⟩ ∧ Den A w β v e.val
 | .kmap es clock => ∃ mes : List MapEntry, w.heap[b]? = some (.map mes.toArray clock) ∧ mes.length = es.length ∧ ∀ (j bn : Nat) k v, es[j]? = some (bn, k, v) → ∃ e, mes[j]? = some e ∧ e.born = bn ∧ keyV k = some e.key ∧ Den A w β v e.val
 | .iter (some m) since seen last => ∃ mb, β[m]? = some mb ∧ w.heap[b]? = some (.mapIter (some mb) since seen.toArray last)
 | .iter none _ _ _ => ∃ ob, w.heap[b]? = some ob
theorem ObjRel.mono {A A' : Nat → Prop} {β β' : List Nat} {w w' : World} {b : Nat} {o : PObj} (h : ObjRel A β w b o) (e : Ext A w A' w') (hβ : Pre β β')
  (hb : w'.heap[b]? = w.heap[b]?) : ObjRel A' β' w' b o := by
 cases o with
 | dead => trivial
 | box cs =>
  obtain ⟨vs, T, fr, h1, h2, h3, h4⟩ := h
  exact ⟨vs, T, fr, hb.trans h1, h2, h3, fun j c v hc hv => (h4 j c v hc hv).mono e hβ⟩
 | arr k xs cap =>
  obtain ⟨h4, h5, h6, h0⟩ := h
  refine ⟨h4, h5, h6, fun hne => ?_⟩
  obtain ⟨vs, T, fr, h1, h2, h3, h7⟩ := h0 hne
  refine ⟨vs, T, fr, hb.trans h1, h2, h3, fun i x j c hx hc => ?_⟩
  obtain ⟨v, hv, hd⟩ := h7 i x j c hx hc
  exact ⟨v, hv, hd.mono e (Pre.refl _)⟩
 | map es =>
  obtain ⟨mes, cl, h1, h2, h3⟩ := h
  refine ⟨mes, cl, hb.trans h1, h2, fun j k v hj => ?_⟩
  obtain ⟨e1, g1, g2, g3⟩ := h3 j k v hj
  exact ⟨e1, g1, g2, g3.mono e hβ⟩
 | kmap es cl =>
  obtain ⟨mes, h1, h2, h3⟩ := h
  refine ⟨mes, hb.trans h1, h2, fun j bn k v hj => ?_⟩
  obtain ⟨e1, g1, g0, g2, g3⟩ := h3 j bn k v hj
  exact ⟨e1, g1, g0, g2, g3.mono e hβ⟩
 | iter m since seen last =>
  cases m with
  | none => obtain ⟨ob, h1⟩ := h; exact ⟨ob, hb.trans h1⟩
  | some m => obtain ⟨mb, h1, h2⟩ := h; exact ⟨mb, hβ _ _ h1, hb.trans h2⟩
theorem ObjRel.lt {A : Nat → Prop} {β : List Nat} {w : World} {b : Nat} {o : PObj} (h : ObjRel A β w b o) (hl : o.live = true) : b < w.heap.size := by
 cases o with
 | dead => simp [PObj.live] at hl
 | box cs =>
  obtain ⟨vs, T, fr, h1, _⟩ := h
  rcases Nat.lt_or_ge b w.heap.size with h | h
  ·exact h
  ·rw [Array.getElem?_eq_none h] at h1; cases h1
 | arr k xs cap =>
  obtain ⟨_, _, _, h0⟩ := h
  obtain ⟨vs, T, fr, h1, _⟩ := h0 (by rintro rfl; simp [PObj.live] at hl)
  rcases Nat.lt_or_ge b w.heap.size with h | h
  ·exact h
  ·rw [Array.getElem?_eq_none h] at h1; cases h1
 | map es =>
  obtain ⟨mes, cl, h1, _⟩ := h
  rcases Nat.lt_or_ge b w.heap.size with h | h
  ·exact h
  ·rw [Array.getElem?_eq_none h] at h1; cases h1
 | kmap es cl =>
  obtain ⟨mes, h1, _⟩ := h
  rcases Nat.lt_or_ge b w.heap.size with h | h
  ·exact h
  ·rw [Array.getElem?_eq_none h] at h1; cases h1
 | iter m since seen last =>
  have : ∃ ob, w.heap[b]? = some ob := by
   cases m with
   | none => exact h
   | some m => obtain ⟨mb, _, h2⟩ := h; exact ⟨_, h2⟩
  obtain ⟨ob, h1⟩ := this
  rcases Nat.lt_or_ge b w.heap.size with h | h
  ·exact h
  ·rw [Array.getElem?_eq_none h] at h1; cases h1
theorem ObjRel.still {A A' : Nat → Prop} {β β' : List Nat} {w w' : World} {b b' : Nat} {o : PObj} (h : ObjRel A β w b o) (ho : o.live = false) : ObjRel A' β' w' b' o := by
 cases o with
 | dead => trivial
 | box cs => cases ho
 | arr k xs cap =>
  cases cap with
  | zero => exact ⟨h.1, h.2.1, h.2.2.1, fun hne => (hne rfl).elim⟩
  | succ n => cases ho
 | map es => cases ho
 | kmap es cl => cases ho
 | iter m s l c => cases ho
structure Glob where
 n : Nat
 G : Nat → Option Obj
structure Base where
 w : World
 A : Nat → Prop
 K : Nat → Prop
 β : List Nat
 D : Nat → Bool
def PObj.stays : PObj → Bool
 | .arr _ _ _ => false
 | _ => true
def base0 (A : Nat → Prop) (w : World) (β : List Nat) (st : List PObj) : Base :=
 ⟨w, A, fun b => ∃ i, β[i]? = some b ∧ liveAt st i, β, fun i => ((st[i]?).map PObj.stays).getD false⟩
structure Inv (Gl : Glob) (B : Base) (A : Nat → Prop) (w : World) (β : List Nat) (st : List PObj) : Prop where
 len : β.length = st.length
 inj : ∀ (i j b : Nat), β[i]? = some b → β[j]? = some b → liveAt st i → liveAt st j → i = j
 obj : ∀ (i b : Nat) o, β[i]? = some b → st[i]? = some o → ObjRel A β w b o
 notA : ∀ (i b : Nat), β[i]? = some b → liveAt st i → ¬ A b
 own : ∀ (i b : Nat), β[i]? = some b → liveAt st i → B.K b ∨ B.w.heap.size ≤ b
 lt : ∀ b, A b → b < w.heap.size
 new : ∀ b, A b → B.A b ∨ B.K b ∨ B.w.heap.size ≤ b
 old : ∀ b, B.A b → A b
 size : B.w.heap.size ≤ w.heap.size
 os : w.os = B.w.os
 tape : w.tape = B.w.tape
 output : w.output = B.w.output
 keep : ∀ b, b < B.w.heap.size → ¬ B.K b → w.heap[b]? = B.w.heap[b]?
 glob : ∀ b, b < Gl.n → B.w.heap[b]? = Gl.G b ∧ ¬ B.K b ∧ b < B.w.heap.size ∧ B.A b
 pre : ∀ (i b : Nat), B.D i = true → B.β[i]? = some b → β[i]? = some b
 apart : ∀ b, B.A b → ¬ B.K b ∧ b < B.w.heap.size
theorem Inv.rebase {Gl : Glob} {B : Base} {A : Nat → Prop} {w : World} {β : List Nat} {st : List PObj} (h : Inv Gl B A w β st) : Inv Gl (base0 A w β st) A w β st := by
 refine ⟨h.len, h.inj, h.obj, h.notA, fun i b h1 l1 => .inl ⟨i, h1, l1⟩, h.lt, fun b hb => .inl hb, fun b hb => hb, Nat.le_refl _, rfl, rfl, rfl, fun _ _ _ => rfl, fun b hb => ?_, fun i b _ h => h, fun b hb => ⟨fun hk => ?_, h.lt b hb⟩⟩
 ·obtain ⟨g1, g2, g3, g4⟩ := h.glob b hb
  refine ⟨(h.keep b g3 g2).trans g1, fun hk => ?_, Nat.lt_of_lt_of_le g3 h.size, h.old b g4⟩
  obtain ⟨i, h1, l1⟩ := hk
  rcases h.own i b h1 l1 with hh | hh
  ·exact g2 hh
  ·omega
 ·obtain ⟨i, h1, l1⟩ := hk
  exact h.notA i b h1 l1 hb
def EnvRel (A : Nat → Prop) (w : World) (β : List Nat) (env : List PV) (tmps : List Value) : Prop :=
 env.length = tmps.length ∧ ∀ (i : Nat) p v, env[i]? = some p → tmps[i]? = some v → Den A w β p v
theorem EnvRel.mono {A A' : Nat → Prop} {w w' : World} {β β' : List Nat} {env : List PV} {tmps : List Value} (h : EnvRel A w β env tmps) (e : Ext A w A' w') (hβ : Pre β β') :
  EnvRel A' w' β' env tmps := ⟨h.1, fun i p v hp hv => (h.2 i p v hp hv).mono e hβ⟩
abbrev Post := Exit → List PV → List PObj → Prop
theorem Inv.ext0 {Gl : Glob} {B : Base} {A : Nat → Prop} {w : World} {β : List Nat} {st : List PObj} (h : Inv Gl B A w β st) : Ext B.A B.w A w :=
 ⟨h.old, fun b hb => h.keep b (h.apart b hb).2 (h.apart b hb).1⟩
def Real (Gl : Glob) (B : Base) (Q : Post) (e : Exit) (a' : Act) (w' : World) : Prop :=
 ∃ env' st' A' β' tmps', a' = ⟨tmps'.toArray, []⟩ ∧ Q e env' st' ∧ Inv Gl B A' w' β' st' ∧ EnvRel A' w' β' env' tmps'
def PW (P : Program) (Gl : Glob) (B : Base) (c : Code) (env : List PV) (st : List PObj) (Q : Post) : Prop :=
 ∀ A w β tmps, Inv Gl B A w β st → EnvRel A w β env tmps → c.wp P (Real Gl B Q) ⟨tmps.toArray, []⟩ w
section rules
variable {P : Program} {Gl : Glob} {B : Base} {env : List PV} {st : List PObj} {Q : Post}
theorem PW.mono {c : Code} {Q' : Post} (h : PW P Gl B c env st Q) (hq : ∀ e env st, Q e env st → Q' e env st) : PW P Gl B c env st Q' :=
 fun A w β tmps hi he => wp_mono (h A w β tmps hi he) fun _ _ _ ⟨env', st', A', β', t', h1, h2, h3⟩ => ⟨env', st', A', β', t', h1, hq _ _ _ h2, h3⟩
theorem pw_skip (h : Q .normal env st) : PW P Gl B .skip env st Q :=
 fun A _w β tmps hi he => wp_skip ⟨env, st, A, β, tmps, rfl, h, hi, he⟩
theorem pw_exit {id : Nat} (h : Q (.exit id) env st) : PW P Gl B (.exit id) env st Q :=
 fun A _w β tmps hi he => wp_exit ⟨env, st, A, β, tmps, rfl, h, hi, he⟩
theorem pw_ret (h : Q .ret env st) : PW P Gl B .ret env st Q :=
 fun A _w β tmps hi he => wp_ret ⟨env, st, A, β, tmps, rfl, h, hi, he⟩
def andThen (K : List PV → List PObj → Prop) (Q : Post) : Post
 | .normal, env, st => K env st
 | e, env, st => Q e env st
theorem pw_seq_K {x y : Code} {K : List PV → List PObj → Prop} (h : PW P Gl B x env st (andThen K Q)) (hK : ∀ env st, K env st → PW P Gl B y env st Q) :
  PW P Gl B (.seq x y) env st Q := fun A w β tmps hi he => by
 refine wp_seq (wp_mono (h A w β tmps hi he) ?_)
 rintro e a' w' ⟨env', st', A', β', t', rfl, h2, h3, h4⟩
 cases e with
 | normal => exact hK _ _ h2 A' w' β' t' h3 h4
 | _ => exact ⟨env', st', A', β', t', rfl, h2, h3, h4⟩
theorem pw_seq {x y : Code} (h : PW P Gl B x env st (andThen (fun env st => PW P Gl B y env st Q) Q)) : PW P Gl B (.seq x y) env st Q :=
 pw_seq_K h fun _ _ h => h
def inBlock (id : Nat) (Q : Post) : Post
 | .exit id', env, st => if id' = id then Q .normal env st else Q (.exit id') env st
 | e, env, st => Q e env st
theorem pw_block {id : Nat} {c : Code} (h : PW P Gl B c env st (inBlock id Q)) : PW P Gl B (.block id c) env st Q := fun A w β tmps hi he => by
 refine wp_block (wp_mono (h A w β tmps hi he) ?_)
 rintro e a' w' ⟨env', st', A', β', t', rfl, h2, h3⟩
 cases e with
 | exit id' =>
  simp only [Go.Exit.inBlock, inBlock] at *
  split
  ·rename_i hid; rw [if_pos hid] at h2; exact ⟨env', st', A', β', t', rfl, h2, h3⟩
  ·rename_i hid; rw [if_neg hid] at h2; exact ⟨env', st', A', β', t', rfl, h2, h3⟩
 | _ => exact ⟨env', st', A', β', t', rfl, h2, h3⟩
def cv : Value → PV
 | .bool b => .bool b
 | .int k n => .int k n
 | .string ⟨⟨l⟩⟩ => .str l
 | .pointer none => .nilptr
 | .slice none 0 0 => .nilsl
 | .map none => .nilmap
 | .nilFunc => .nilfn
 | .nilIface => .niliface
 | _ => .any
def cvAgg : Value → PV
 | .agg cs => .agg (cs.toList.map cv)
 | v => cv v
def pe (env : List PV) : Operand → PV
 | .tmp t => (env[t]?).getD .any
 | .const v => cvAgg v
 | .global g => .gptr g 0
 | .func f => .fn f []
theorem den_cv (A : Nat → Prop) (w : World) (β : List Nat) (v : Value) : Den A w β (cv v) v := by
 unfold cv
 split <;> first | exact .any .. | exact .bool .. | exact .int .. | exact .nilptr .. | exact .nilsl .. | exact .nilmap .. | exact .nilfn .. | exact .niliface .. | skip
 rename_i l
 exact .str β l
theorem den_cvAgg (A : Nat → Prop) (w : World) (β : List Nat) (v : Value) : Den A w β (cvAgg v) v := by
 unfold cvAgg
 split
 ·rename_i cs
  refine .agg β (cs.toList.map cv) cs.toList (by simp) ?_
  intro j c v hc hv
  rw [List.getElem?_map, hv] at hc
  cases hc
  exact den_cv ..
 ·exact den_cv ..
theorem EnvRel.eval {A : Nat → Prop} {w : World} {β : List Nat} {env : List PV} {tmps : List Value} (h : EnvRel A w β env tmps) (ds : List Deferred) (x : Operand) :
  Den A w β (pe env x) ((⟨tmps.toArray, ds⟩ : Act).eval x) := by
 cases x with
 | tmp t =>
  simp only [pe, Act.eval]
  cases he : env[t]? with
  | none => exact .any ..
  | some p =>
   have hlt : t < env.length := (List.getElem?_eq_some_iff.1 he).1
   have hlt' : t < tmps.length := by rw [← h.1]; exact hlt
   have hv : tmps[t]? = some tmps[t] := List.getElem?_eq_getElem hlt'
   have := h.2 t p _ he hv
   simpa [Array.getD, hlt'] using this
 | const v => exact den_cvAgg ..
 | global g => exact .gptr ..
 | func f => exact .fn β f [] [] rfl (by intro j c v hc; simp at hc)
theorem pw_cond {c : Operand} {x y : Code} {t : Bool} (hc : pe env c = .bool t) (ht : t = true → PW P Gl B x env st Q) (hf : t = false → PW P Gl B y env st Q) :
  PW P Gl B (.cond c x y) env st Q := fun A w β tmps hi he => by
 have hd := he.eval [] c
 rw [hc] at hd
 have : (⟨tmps.toArray, []⟩ : Act).eval c = .bool t := by
  generalize (⟨tmps.toArray, []⟩ : Act).eval c = v at hd
  cases hd; rfl
 exact wp_cond_split this (fun h => ht h A w β tmps hi he) (fun h => hf h A w β tmps hi he)
def LeBy (R : PV → PV → Prop) : List PV → List PV → Prop
 | [], [] => True
 | x :: xs, y :: ys => R x y ∧ LeBy R xs ys
 | _, _ => False
def PLe : Nat → PV → PV → Prop
 | 0, x, y => x = y
 | n + 1, x, y => y = .any ∨ x = y ∨ (x = .nilsl ∧ y = .sl []) ∨ (x = .nilsl ∧ ∃ k i, y = .msl k i 0 0 0) ∨ ∃ cs ds, x = .agg cs ∧ y = .agg ds ∧ LeBy (PLe n) cs ds
def Le : List PV → List PV → Prop := LeBy (PLe 2)
theorem LeBy.len {R : PV → PV → Prop} : ∀ {xs ys : List PV}, LeBy R xs ys → xs.length = ys.length
 | [], [], _ => rfl
 | _ :: _, _ :: _, ⟨_, h2⟩ => by simp [LeBy.len h2]
theorem LeBy.get {R : PV → PV → Prop} : ∀ {xs ys : List PV}, LeBy R xs ys → ∀ (i : Nat) p, ys[i]? = some p → ∃ q, xs[i]? = some q ∧ R q p
 | [], [], _, i, p, h => by simp at h
 | x :: xs, y :: ys, ⟨h1, h2⟩, 0, p, h => by simp at h; subst h; exact ⟨x, rfl, h1⟩
 | x :: xs, y :: ys, ⟨h1, h2⟩, i + 1, p, h => by simpa using LeBy.get h2 i p (by simpa using h)
theorem Den.weaken {A : Nat → Prop} {w : World} {β : List Nat} : ∀ (n : Nat) {x y : PV} {v : Value}, PLe n x y → Den A w β x v → Den A w β y v
 | 0, x, y, v, h, hd => by simp only [PLe] at h; subst h; exact hd
 | n + 1, x, y, v, h, hd => by
  simp only [PLe] at h
  rcases h with rfl | rfl | ⟨rfl, rfl⟩ | ⟨rfl, k, i, rfl⟩ | ⟨cs, ds, rfl, rfl, hl⟩
  ·exact .any ..
  ·exact hd
  ·cases hd; exact .slnil ..
  ·cases hd; exact .mslnil ..
  ·cases hd with
   | agg _ _ vs h1 h2 =>
    refine .agg _ _ _ (hl.len ▸ h1) fun j c u hc hu => ?_
    obtain ⟨q, hq, hr⟩ := hl.get j c hc
    exact Den.weaken n hr (h2 j q u hq hu)
theorem EnvRel.weaken {A : Nat → Prop} {w : World} {β : List Nat} {env env' : List PV} {tmps : List Value} (h : EnvRel A w β env tmps) (hl : Le env env') : EnvRel A w β env' tmps := by
 refine ⟨(LeBy.len hl).symm.trans h.1, fun i p v hp hv => ?_⟩
 obtain ⟨q, hq, hr⟩ := LeBy.get hl i p hp
 exact Den.weaken 2 hr (h.2 i q v hq hv)
def ObLe (x y : PObj) : Prop := x = y ∨ y = .dead ∨ ∃ cs ds, x = .box cs ∧ y = .box ds ∧ Le cs ds
def StLe : List PObj → List PObj → Prop
 | [], [] => True
 | x :: xs, y :: ys => ObLe x y ∧ StLe xs ys
 | _, _ => False
theorem StLe.len : ∀ {xs ys : List PObj}, StLe xs ys → xs.length = ys.length
 | [], [], _ => rfl
 | _ :: _, _ :: _, ⟨_, h2⟩ => by simp [StLe.len h2]
theorem StLe.get : ∀ {xs ys : List PObj}, StLe xs ys → ∀ (i : Nat) p, ys[i]? = some p → ∃ q, xs[i]? = some q ∧ ObLe q p
 | [], [], _, i, p, h => by simp at h
 | x :: xs, y :: ys, ⟨h1, h2⟩, 0, p, h => by simp at h; subst h; exact ⟨x, rfl, h1⟩
 | x :: xs, y :: ys, ⟨h1, h2⟩, i + 1, p, h => by simpa using StLe.get h2 i p (by simpa using h)
theorem StLe.refl : ∀ (xs : List PObj), StLe xs xs
 | [] => trivial
 | _ :: xs => ⟨.inl rfl, StLe.refl xs⟩
theorem Inv.weaken {Gl : Glob} {B : Base} {A : Nat → Prop} {w : World} {β : List Nat} {st st' : List PObj} (h : Inv Gl B A w β st) (hl : StLe st st') : Inv Gl B A w β st' := by
 have lv : ∀ {i : Nat}, liveAt st' i → liveAt st i := fun {i} ⟨o, h1, h2⟩ => by
  obtain ⟨q, hq, hr⟩ := hl.get i o h1
  rcases hr with rfl | rfl | ⟨cs, ds, rfl, rfl, _⟩
  ·exact ⟨q, hq, h2⟩
  ·cases h2
  ·exact ⟨_, hq, rfl⟩
 refine ⟨h.len.trans hl.len, fun i j b h1 h2 l1 l2 => h.inj i j b h1 h2 (lv l1) (lv l2), fun i b o h1 h2 => ?_, fun i b h1 l1 => h.notA i b h1 (lv l1), fun i b h1 l1 => h.own i b h1 (lv l1), h.lt, h.new, h.old, h.size, h.os, h.tape, h.output, h.keep, h.glob, h.pre, h.apart⟩
 obtain ⟨q, hq, hr⟩ := hl.get i o h2
 have := h.obj i b q h1 hq
 rcases hr with rfl | rfl | ⟨cs, ds, rfl, rfl, hle⟩
 ·exact this
 ·trivial
 ·obtain ⟨vs, T, fr, g1, g2, g3, g4⟩ := this
  refine ⟨vs, T, fr, g1, g2.trans (LeBy.len hle), (LeBy.len hle) ▸ g3, fun j c v hc hv => ?_⟩
  obtain ⟨q, hq, hr⟩ := LeBy.get hle j c hc
  exact Den.weaken 2 hr (g4 j q v hq hv)
theorem wp_loop_ghost {X : Type} {P : Program} {c : Code} {Q : Exit → Act → World → Prop} {a : Act} {w : World} (I : X → Act → World → Prop) (μ : X → Nat) (x₀ : X) (h₀ : I x₀ a w)
  (round : ∀ x a w, I x a w → c.wp P (Exit.then (fun a' w' => ∃ x', I x' a' w' ∧ μ x' < μ x) Q) a w) : (Code.loop c).wp P Q a w := by
 intro b k cs
 have key : ∀ n x a w, μ x = n → I x a w →
   ∃ e a' w', Q e a' w' ∧ Arrives P (lone (b.at a (.code c :: .inLoop c :: k)) cs w) b k cs e a' w' := by
  intro n
  induction n using Nat.strongRecOn with
  | _ n ih =>
   intro x a w hn hI
   obtain ⟨e, a₁, w₁, hq, harr⟩ := round x a w hI b (.inLoop c :: k) cs
   cases e with
   | normal =>
    obtain ⟨x', hI₁, hlt⟩ := hq
    obtain ⟨e₂, a₂, w₂, hq₂, harr₂⟩ := ih (μ x') (hn ▸ hlt) x' a₁ w₁ rfl hI₁
    exact ⟨e₂, a₂, w₂, hq₂, .of_steps (Steps.trans harr (.one step_inLoop)) harr₂⟩
   | exit id => exact ⟨_, a₁, w₁, hq, .pass (x := .inLoop c) rfl (fun _ _ => .inl (by simp)) harr⟩
   | goto l => exact ⟨_, a₁, w₁, hq, .pass (x := .inLoop c) rfl (fun _ _ => .inl (by simp)) harr⟩
   | ret => exact ⟨_, a₁, w₁, hq, .pass (x := .inLoop c) rfl (fun _ _ => .inl (by simp)) harr⟩
   | panic ch => exact ⟨_, a₁, w₁, hq, .pass (x := .inLoop c) rfl (fun _ _ => .inl (by simp)) harr⟩
   | outgrown => exact ⟨_, a₁, w₁, hq, .pass (x := .inLoop c) rfl (fun _ _ => .inl (by simp)) harr⟩
 obtain ⟨e, a', w', hq, harr⟩ := key _ x₀ a w rfl h₀
 exact ⟨e, a', w', hq, .of_steps (.one step_loop) harr⟩
end rules
end Go.Pw
