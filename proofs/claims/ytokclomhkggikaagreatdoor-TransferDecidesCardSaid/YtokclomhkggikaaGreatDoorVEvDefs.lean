/-
 A reckoner for closed calls: values, a heap of its own, and a function that runs the program's code on them, in every order that the model leaves open. Nothing here speaks of one program.
 What the reckoner's values and heaps say of the model's.
-/
import GoSem.Elab.Main
import Derived.WalkKit
import Derived.Orders
import Derived.Still
namespace Go.Ev
open Go
noncomputable section
inductive Cap where
 | known (n : Nat)
 | ghost (ci : Nat)
inductive V where
 | any
 | cell
 | bool (b : Bool)
 | int (k : IntKind) (n : Int)
 | str (s : List UInt8)
 | nilptr
 | ptr (i off : Nat)
 | gptr (g off : Nat)
 | nilsl
 | esl
 | sl (k i off len : Nat) (cap : Cap)
 | nilmap
 | map (i : Nat)
 | nilfn
 | fn (f : FuncId) (first caps : List V)
 | niliface
 | iface (t : TypeId) (v : V)
 | agg (cs : List V)
 | tup (vs : List V)
 deriving Inhabited
def V.cells : V → List V
 | .agg cs => cs
 | v => [v]
def V.one : V → Bool
 | .any | .agg _ | .tup _ => false
 | _ => true
inductive O where
 | dead
 | box (cs : List V)
 | vec (k ci : Nat) (cs : List V)
 | kmap (es : List (Nat × V × V)) (clock : Nat)
 | iter (m : Option Nat) (since : Nat) (seen : List Nat) (last : Nat)
 deriving Inhabited
structure E8 (α : Type) where
 a : α
 b : α
 c : α
 d : α
 e : α
 f : α
 g : α
 h : α
abbrev Env := E8 (E8 (E8 V))
def fNat {β : Type} (n : Nat) (k : Nat → β) : β := @Nat.casesOn (fun _ => β) (Nat.succ n) (k 0) fun m => k m
noncomputable def nthK {α β : Type} (l : List α) : Nat → α → (α → β) → β :=
 @List.rec α (fun _ => Nat → α → (α → β) → β) (fun _ d k => k d) (fun x _ ih n d k => @Nat.casesOn (fun _ => β) n (k x) fun m => ih m d k) l
noncomputable def nthF {α β : Type} (l : List α) : Nat → (α → Option β) → Option β :=
 @List.rec α (fun _ => Nat → (α → Option β) → Option β) (fun _ _ => none) (fun x _ ih n k => @Nat.casesOn (fun _ => Option β) n (k x) fun m => ih m k) l
noncomputable def setK {α β : Type} (l : List α) : Nat → α → (List α → β) → β :=
 @List.rec α (fun _ => Nat → α → (List α → β) → β) (fun _ _ k => k []) (fun x xs ih n y k => @Nat.casesOn (fun _ => β) n (k (y :: xs)) fun m => ih m y fun zs => k (x :: zs)) l
noncomputable def takeK {α β : Type} (l : List α) : Nat → (List α → β) → β :=
 @List.rec α (fun _ => Nat → (List α → β) → β) (fun _ k => k []) (fun x _ ih n k => @Nat.casesOn (fun _ => β) n (k []) fun m => ih m fun l => k (x :: l)) l
noncomputable def dropK {α β : Type} (l : List α) : Nat → (List α → β) → β :=
 @List.rec α (fun _ => Nat → (List α → β) → β) (fun _ k => k []) (fun x xs ih n k => @Nat.casesOn (fun _ => β) n (k (x :: xs)) fun m => ih m k) l
noncomputable def appK {α β : Type} (l : List α) : List α → (List α → β) → β :=
 @List.rec α (fun _ => List α → (List α → β) → β) (fun ys k => k ys) (fun x _ ih ys k => ih ys fun l => k (x :: l)) l
noncomputable def mapK {α γ β : Type} (f : α → (γ → β) → β) (l : List α) : (List γ → β) → β :=
 @List.rec α (fun _ => (List γ → β) → β) (fun k => k []) (fun x _ ih k => f x fun y => ih fun ys => k (y :: ys)) l
noncomputable def onK {β : Type} (l : List V) : List V → (Option (List V) → β) → β :=
 @List.rec V (fun _ => List V → (Option (List V) → β) → β) (fun cs k => k (some cs)) (fun x _ ih cs k => @List.casesOn V (fun _ => β) cs (k none) fun _ cs => ih cs fun l => @Option.casesOn _ (fun _ => β) l (k none) fun l => k (some (x :: l))) l
noncomputable def overK {β : Type} (l : List V) : Nat → List V → (Option (List V) → β) → β :=
 @List.rec V (fun _ => Nat → List V → (Option (List V) → β) → β) (fun n xs k => @Nat.casesOn (fun _ => β) n (onK xs [] k) fun _ => k none)
  (fun c cs ih n xs k => @Nat.casesOn (fun _ => β) n (onK xs (c :: cs) k) fun n => ih n xs fun l => @Option.casesOn _ (fun _ => β) l (k none) fun l => k (some (c :: l))) l
noncomputable def spK {α β : Type} (l : List α) : (List α → β) → β :=
 @List.rec α (fun _ => (List α → β) → β) (fun k => k []) (fun x _ ih k => ih fun l => k (x :: l)) l
noncomputable def memN (i : Nat) (l : List Nat) : Bool :=
 @List.rec Nat (fun _ => Bool) false (fun j _ ih => @Bool.casesOn (fun _ => Bool) (Nat.beq i j) ih true) l
noncomputable def replK {β : Type} (z : List V) (n : Nat) : List V → (List V → β) → β :=
 @Nat.rec (fun _ => List V → (List V → β) → β) (fun acc k => k acc) (fun _ ih acc k => appK z acc fun acc => ih acc k) n
def noref1 (v : V) : Bool := match v with
 | .any | .cell | .bool _ | .int _ _ | .str _ | .nilptr | .gptr _ _ | .nilsl | .esl | .nilmap | .nilfn | .niliface => true
 | _ => false
noncomputable def norefL (l : List V) : Bool := @List.rec V (fun _ => Bool) true (fun x _ ih => @Bool.casesOn (fun _ => Bool) (noref1 x) false ih) l
def fInt {β : Type} (n : Int) (k : Int → β) : β := @Int.casesOn (fun _ => β) n (fun m => fNat m fun m => k (.ofNat m)) (fun m => fNat m fun m => k (.negSucc m))
def fBool {β : Type} (b : Bool) (k : Bool → β) : β := @Bool.casesOn (fun _ => β) b (k false) (k true)
def fKind {β : Type} (b : IntKind) (k : IntKind → β) : β :=
 match b with
 | .i8 => k .i8 | .i16 => k .i16 | .i32 => k .i32 | .i64 => k .i64 | .u8 => k .u8 | .u16 => k .u16 | .u32 => k .u32 | .u64 => k .u64
def fCap {β : Type} (c : Cap) (k : Cap → β) : β :=
 match c with
 | .known n => fNat n fun n => k (.known n)
 | .ghost n => fNat n fun n => k (.ghost n)
def fV1 {β : Type} (v : V) (k : V → β) : β :=
 match v with
 | .bool b => fBool b fun b => k (.bool b)
 | .int kd n => fKind kd fun kd => fInt n fun n => k (.int kd n)
 | .str s => spK s fun s => k (.str s)
 | .ptr i o => fNat i fun i => fNat o fun o => k (.ptr i o)
 | .gptr i o => fNat i fun i => fNat o fun o => k (.gptr i o)
 | .sl kk i o l c => fNat kk fun kk => fNat i fun i => fNat o fun o => fNat l fun l => fCap c fun c => k (.sl kk i o l c)
 | .map i => fNat i fun i => k (.map i)
 | .any => k .any
 | .cell => k .cell
 | .nilptr => k .nilptr
 | .nilsl => k .nilsl
 | .esl => k .esl
 | .nilmap => k .nilmap
 | .nilfn => k .nilfn
 | .niliface => k .niliface
 | v => k v
def fV2 {β : Type} (v : V) (k : V → β) : β :=
 match v with
 | .agg cs => mapK fV1 cs fun cs => k (.agg cs)
 | .tup cs => mapK fV1 cs fun cs => k (.tup cs)
 | .fn f a b => fNat f fun f => mapK fV1 a fun a => mapK fV1 b fun b => k (.fn f a b)
 | .iface t x => fNat t fun t => fV1 x fun x => k (.iface t x)
 | v => fV1 v k
def fV {β : Type} (v : V) (k : V → β) : β :=
 match v with
 | .tup cs => mapK fV2 cs fun cs => k (.tup cs)
 | .fn f a b => fNat f fun f => mapK fV2 a fun a => mapK fV2 b fun b => k (.fn f a b)
 | .iface t x => fNat t fun t => fV2 x fun x => k (.iface t x)
 | v => fV2 v k
structure Dl where
 vs : List V
 new : List O
 old : List (Nat × O)
abbrev R := Option (List Dl)
structure St where
 n : Nat
 n0 : Nat
 os : List O
 dl : List Nat
def mark {β : Type} (n0 i : Nat) (dl : List Nat) (k : List Nat → β) : β :=
 match Nat.blt i n0 with
 | true => match memN i dl with
  | true => k dl
  | false => k (i :: dl)
 | false => k dl
def St.obj {β : Type} (s : St) (i : Nat) (k : O → β) : β :=
 match Nat.blt i s.n with
 | true => nthK s.os (s.n - 1 - i) .dead k
 | false => k .dead
def St.set {β : Type} (s : St) (i : Nat) (o : O) (k : St → β) : β :=
 match Nat.blt i s.n with
 | true => setK s.os (s.n - 1 - i) o fun os => mark s.n0 i s.dl fun dl => k ⟨s.n, s.n0, os, dl⟩
 | false => k s
def St.push {β : Type} (s : St) (o : O) (k : St → β) : β := fNat (s.n + 1) fun n => k ⟨n, s.n0, o :: s.os, s.dl⟩
inductive TK where
 | bool | int (k : IntKind) | str | ptr (e : TypeId) | sl (e esz bytes : Nat) | arr (n e esz : Nat) | strct (flds : List (Nat × Nat × Bool × TypeId))
 | map (k e : TypeId) | fn | iface | tup | other
structure TI where
 tk : TK
 size : Nat
 bytes : Nat
 zero : Option (List V)
def szOf (P : Program) (t : TypeId) : Option Nat := (P.info? t).map (·.size)
def aggD : TypeDesc → Bool
 | .struct _ | .array _ _ => true
 | _ => false
def fldOf (P : Program) (f : Field) : Option (Nat × Nat × Bool × TypeId) :=
 match szOf P f.type, P.underlying f.type with
 | some s, some d => some (f.offset, s, aggD d, f.type)
 | _, _ => none
def fldsOf (P : Program) : List Field → Option (List (Nat × Nat × Bool × TypeId))
 | [] => some []
 | f :: fs => match fldOf P f, fldsOf P fs with
  | some x, some xs => some (x :: xs)
  | _, _ => none
def tkOf (P : Program) : TypeDesc → TK
 | .bool => .bool
 | .int k => .int k
 | .string => .str
 | .pointer e => .ptr e
 | .slice e => match P.info? e with | some i => .sl e i.size i.bytes | none => .other
 | .array n e => match szOf P e with | some s => .arr n e s | none => .other
 | .struct fs => match fldsOf P fs.toList with | some l => .strct l | none => .other
 | .map k e => .map k e
 | .func _ _ _ => .fn
 | .interface _ => .iface
 | .tuple _ => .tup
 | _ => .other
def cv : Value → V
 | .bool b => .bool b
 | .int k n => .int k n
 | .string ⟨⟨l⟩⟩ => .str l
 | .pointer none => .nilptr
 | .slice none 0 0 => .nilsl
 | .map none => .nilmap
 | .nilFunc => .nilfn
 | .nilIface => .niliface
 | _ => .any
def cvAgg : Value → V
 | .agg cs => .agg (cs.toList.map cv)
 | v => cv v
def zeroOf : Option Value → Option (List V)
 | some v => some (v.cells.toList.map cv)
 | none => none
def tyOf (P : Program) (t : TypeId) : Option TI :=
 match P.info? t, P.underlying t with
 | some i, some d => some ⟨tkOf P d, i.size, i.bytes, zeroOf i.zero⟩
 | _, _ => none
def tkT (P : Program) (t : TypeId) : Option TK :=
 match tyOf P t with
 | some ti => some ti.tk
 | none => none
def zeroT (P : Program) (t : TypeId) : Option (List V) :=
 match tyOf P t with
 | some ti => ti.zero
 | none => none
def TK.agg : TK → Bool
 | .strct _ | .arr _ _ _ => true
 | _ => false
def TK.known : TK → Bool
 | .other => false
 | _ => true
def TK.conc : TK → Bool
 | .other | .iface => false
 | _ => true
def keyV1 : V → Option Value
 | .int k n => some (.int k n)
 | .bool b => some (.bool b)
 | .str s => some (.string ⟨s.toArray⟩)
 | _ => none
def keyVs : List V → Option (List Value)
 | [] => some []
 | p :: l => match keyV1 p, keyVs l with
  | some v, some vs => some (v :: vs)
  | _, _ => none
def keyV : V → Option Value
 | .agg cs => match keyVs cs with
  | some vs => some (.agg vs.toArray)
  | none => none
 | p => keyV1 p
end
end Go.Ev
namespace Go.Ev
open Go
noncomputable section
theorem fNat_eq {β : Type} (n : Nat) (k : Nat → β) : fNat n k = k n := rfl
theorem fInt_eq {β : Type} (n : Int) (k : Int → β) : fInt n k = k n := by cases n <;> rfl
theorem fBool_eq {β : Type} (b : Bool) (k : Bool → β) : fBool b k = k b := by cases b <;> rfl
theorem fKind_eq {β : Type} (b : IntKind) (k : IntKind → β) : fKind b k = k b := by cases b <;> rfl
theorem fCap_eq {β : Type} (c : Cap) (k : Cap → β) : fCap c k = k c := by cases c <;> rfl
theorem nthK_eq {α β : Type} : ∀ (l : List α) (n : Nat) (d : α) (k : α → β), nthK l n d k = k ((l[n]?).getD d)
 | [], _, _, _ => rfl
 | _ :: _, 0, _, _ => rfl
 | _ :: xs, n + 1, d, k => by
  show nthK xs n d k = _
  rw [nthK_eq xs n d k]; rfl
theorem nthF_eq {α β : Type} : ∀ (l : List α) (n : Nat) (k : α → Option β), nthF l n k = (l[n]?).bind k
 | [], _, _ => rfl
 | _ :: _, 0, _ => rfl
 | _ :: xs, n + 1, k => by
  show nthF xs n k = _
  rw [nthF_eq xs n k]; rfl
theorem setK_eq {α β : Type} : ∀ (l : List α) (n : Nat) (y : α) (k : List α → β), setK l n y k = k (l.set n y)
 | [], _, _, _ => rfl
 | _ :: _, 0, _, _ => rfl
 | x :: xs, n + 1, y, k => by
  show setK xs n y (fun zs => k (x :: zs)) = _
  rw [setK_eq xs n y]; rfl
theorem takeK_eq {α β : Type} : ∀ (l : List α) (n : Nat) (k : List α → β), takeK l n k = k (l.take n)
 | [], n, k => by show k [] = _; simp
 | _ :: _, 0, _ => rfl
 | x :: xs, n + 1, k => by
  show takeK xs n (fun l => k (x :: l)) = _
  rw [takeK_eq xs n]; rfl
theorem dropK_eq {α β : Type} : ∀ (l : List α) (n : Nat) (k : List α → β), dropK l n k = k (l.drop n)
 | [], n, k => by show k [] = _; simp
 | _ :: _, 0, _ => rfl
 | _ :: xs, n + 1, k => by
  show dropK xs n k = _
  rw [dropK_eq xs n]; rfl
theorem appK_eq {α β : Type} : ∀ (l m : List α) (k : List α → β), appK l m k = k (l ++ m)
 | [], _, _ => rfl
 | x :: xs, m, k => by
  show appK xs m (fun l => k (x :: l)) = _
  rw [appK_eq xs m]; rfl
theorem mapK_eq {α γ β : Type} {f : α → (γ → β) → β} (g : α → γ) (h : ∀ x k, f x k = k (g x)) : ∀ (l : List α) (k : List γ → β), mapK f l k = k (l.map g)
 | [], _ => rfl
 | x :: xs, k => by
  show f x (fun y => mapK f xs fun ys => k (y :: ys)) = _
  rw [h, mapK_eq g h xs]; rfl
theorem onK_eq {β : Type} : ∀ (xs cs : List V) (k : Option (List V) → β), onK xs cs k = k (if xs.length ≤ cs.length then some (xs ++ cs.drop xs.length) else none)
 | [], cs, k => by show k (some cs) = _; simp
 | x :: xs, [], k => by show k none = _; simp
 | x :: xs, c :: cs, k => by
  show onK xs cs (fun l => @Option.casesOn _ (fun _ => β) l (k none) fun l => k (some (x :: l))) = _
  rw [onK_eq xs cs]
  by_cases h : xs.length ≤ cs.length <;> simp [h]
theorem overK_eq {β : Type} : ∀ (cs : List V) (n : Nat) (xs : List V) (k : Option (List V) → β),
  overK cs n xs k = k (if n + xs.length ≤ cs.length then some (cs.take n ++ xs ++ cs.drop (n + xs.length)) else none)
 | [], 0, xs, k => by
  show onK xs [] k = _
  rw [onK_eq]; simp
 | [], n + 1, xs, k => by
  show k none = _
  rw [if_neg (by simp)]
 | c :: cs, 0, xs, k => by
  show onK xs (c :: cs) k = _
  rw [onK_eq]; simp
 | c :: cs, n + 1, xs, k => by
  show overK cs n xs (fun l => @Option.casesOn _ (fun _ => β) l (k none) fun l => k (some (c :: l))) = _
  rw [overK_eq cs n xs]
  by_cases h : n + xs.length ≤ cs.length
  ·have h' : n + 1 + xs.length ≤ (c :: cs).length := by simp; omega
   have e : n + 1 + xs.length = n + xs.length + 1 := by omega
   simp [h, e]
  ·have h' : ¬ n + 1 + xs.length ≤ (c :: cs).length := by simp; omega
   rw [if_neg h, if_neg h']
theorem spK_eq {α β : Type} : ∀ (l : List α) (k : List α → β), spK l k = k l
 | [], _ => rfl
 | x :: xs, k => by
  show spK xs (fun l => k (x :: l)) = _
  rw [spK_eq xs]
theorem memN_eq (i : Nat) : ∀ (l : List Nat), memN i l = l.contains i
 | [] => rfl
 | j :: l => by
  show @Bool.casesOn (fun _ => Bool) (Nat.beq i j) (memN i l) true = _
  rw [memN_eq i l, List.contains_cons]
  cases h : Nat.beq i j
  ·have := Nat.ne_of_beq_eq_false h
   simp [this]
  ·have := Nat.eq_of_beq_eq_true h
   simp [this]
theorem replK_eq {β : Type} (z : List V) : ∀ (n : Nat) (acc : List V) (k : List V → β), replK z n acc k = k ((List.replicate n z).flatten ++ acc)
 | 0, acc, k => by show k acc = _; simp
 | n + 1, acc, k => by
  show appK z acc (fun acc => replK z n acc k) = _
  rw [appK_eq, replK_eq z n]
  congr 1
  rw [List.replicate_succ', List.flatten_append]; simp
theorem fV1_eq {β : Type} (v : V) (k : V → β) : fV1 v k = k v := by
 cases v <;> first | rfl | skip
 case bool b => simp only [fV1, fBool_eq]
 case int kd n => simp only [fV1, fKind_eq, fInt_eq]
 case str s => simp only [fV1, spK_eq]
 case sl => simp only [fV1, fNat_eq, fCap_eq]
theorem fV2_eq {β : Type} (v : V) (k : V → β) : fV2 v k = k v := by
 have m : ∀ (l : List V) (k : List V → β), mapK fV1 l k = k l := fun l k => by rw [mapK_eq (fun v => v) (fun x k => fV1_eq x k)]; simp
 cases v <;> first | exact fV1_eq _ _ | skip
 all_goals simp only [fV2, m, fNat_eq, fV1_eq]
theorem fV_eq {β : Type} (v : V) (k : V → β) : fV v k = k v := by
 have m : ∀ (l : List V) (k : List V → β), mapK fV2 l k = k l := fun l k => by rw [mapK_eq (fun v => v) (fun x k => fV2_eq x k)]; simp
 cases v <;> first | exact fV2_eq _ _ | skip
 all_goals simp only [fV, m, fNat_eq, fV2_eq]
theorem mapV1_eq {β : Type} (l : List V) (k : List V → β) : mapK fV1 l k = k l := by rw [mapK_eq (fun v => v) (fun x k => fV1_eq x k)]; simp
def Pre (β β' : List Nat) : Prop := ∀ (i b : Nat), β[i]? = some b → β'[i]? = some b
theorem Pre.refl (β : List Nat) : Pre β β := fun _ _ h => h
theorem Pre.trans {β β' β'' : List Nat} (h : Pre β β') (k : Pre β' β'') : Pre β β'' := fun i b hb => k i b (h i b hb)
theorem Pre.snoc (β l : List Nat) : Pre β (β ++ l) := fun i b h => by
 rw [List.getElem?_append_left (by rcases List.getElem?_eq_some_iff.1 h with ⟨h, _⟩; exact h)]; exact h
theorem Pre.nil (β : List Nat) : Pre [] β := fun i b h => by simp at h
def capIs (β : List Nat) (off : Nat) : Cap → Nat → Prop
 | .known n, c => c = n
 | .ghost ci, c => β[ci]? = some (off + c)
inductive Den (β : List Nat) : V → Value → Prop
 | any (v) : Den β .any v
 | cell (v) : v.oneCell' = true → Den β .cell v
 | bool (b) : Den β (.bool b) (.bool b)
 | int (k n) : Den β (.int k n) (.int k n)
 | str (s) : Den β (.str s) (.string ⟨s.toArray⟩)
 | nilptr : Den β .nilptr (.pointer none)
 | ptr (i off b) : β[i]? = some b → Den β (.ptr i off) (.pointer (some ⟨b, off, none⟩))
 | gptr (g off) : Den β (.gptr g off) (.pointer (some ⟨g, off, none⟩))
 | nilsl : Den β .nilsl (.slice none 0 0)
 | esl (a c) : Den β .esl (.slice a 0 c)
 | sl (k i off len cap b c) : β[i]? = some b → capIs β off cap c → len ≤ c → Den β (.sl k i off len cap) (.slice (some ⟨b, off * k, none⟩) len c)
 | nilmap : Den β .nilmap (.map none)
 | map (i b) : β[i]? = some b → Den β (.map i) (.map (some b))
 | nilfn : Den β .nilfn .nilFunc
 | fn (f) (as bs : List V) (vs us : List Value) : as.length = vs.length → (∀ (j : Nat) c v, as[j]? = some c → vs[j]? = some v → Den β c v) →
   bs.length = us.length → (∀ (j : Nat) c v, bs[j]? = some c → us[j]? = some v → Den β c v) → Den β (.fn f as bs) (.func (.func f) vs.toArray us.toArray)
 | niliface : Den β .niliface .nilIface
 | iface (t v u) : Den β v u → Den β (.iface t v) (.iface t u)
 | agg (cs) (vs : List Value) : cs.length = vs.length → (∀ u ∈ vs, u.oneCell' = true) → (∀ (j : Nat) c v, cs[j]? = some c → vs[j]? = some v → Den β c v) → Den β (.agg cs) (.agg vs.toArray)
 | tup (cs) (vs : List Value) : cs.length = vs.length → (∀ (j : Nat) c v, cs[j]? = some c → vs[j]? = some v → Den β c v) → Den β (.tup cs) (.tuple vs.toArray)
def DenL (β : List Nat) (cs : List V) (vs : List Value) : Prop := cs.length = vs.length ∧ ∀ (j : Nat) c v, cs[j]? = some c → vs[j]? = some v → Den β c v
theorem DenL.nil {β : List Nat} : DenL β [] [] := ⟨rfl, fun j c v h => by simp at h⟩
theorem DenL.cons {β : List Nat} {c : V} {v : Value} {cs : List V} {vs : List Value} (h : Den β c v) (t : DenL β cs vs) : DenL β (c :: cs) (v :: vs) :=
 ⟨by simp [t.1], fun j x y hx hy => by
  cases j with
  | zero => simp at hx hy; subst hx hy; exact h
  | succ j => exact t.2 j x y (by simpa using hx) (by simpa using hy)⟩
theorem DenL.append {β : List Nat} {cs ds : List V} {vs us : List Value} (h : DenL β cs vs) (t : DenL β ds us) : DenL β (cs ++ ds) (vs ++ us) :=
 ⟨by simp [h.1, t.1], fun j x y hx hy => by
  by_cases hj : j < cs.length
  ·rw [List.getElem?_append_left hj] at hx
   rw [List.getElem?_append_left (h.1 ▸ hj)] at hy
   exact h.2 j x y hx hy
  ·rw [List.getElem?_append_right (by omega)] at hx
   rw [List.getElem?_append_right (by have := h.1; omega), ← h.1] at hy
   exact t.2 _ x y hx hy⟩
theorem DenL.take {β : List Nat} {cs : List V} {vs : List Value} (h : DenL β cs vs) (n : Nat) : DenL β (cs.take n) (vs.take n) :=
 ⟨by simp [h.1], fun j x y hx hy => by
  by_cases hj : j < n
  ·rw [List.getElem?_take, if_pos hj] at hx hy
   exact h.2 j x y hx hy
  ·rw [List.getElem?_take, if_neg hj] at hx
   cases hx⟩
theorem DenL.drop {β : List Nat} {cs : List V} {vs : List Value} (h : DenL β cs vs) (n : Nat) : DenL β (cs.drop n) (vs.drop n) :=
 ⟨by simp [h.1], fun j x y hx hy => by
  rw [List.getElem?_drop] at hx hy
  exact h.2 _ x y hx hy⟩
theorem DenL.repl {β : List Nat} {cs : List V} {vs : List Value} (h : DenL β cs vs) : ∀ n : Nat, DenL β (List.replicate n cs).flatten (List.replicate n vs).flatten
 | 0 => .nil
 | n + 1 => by simpa [List.replicate_succ] using h.append (h.repl n)
theorem DenL.over {β : List Nat} {cs xs : List V} {vs us : List Value} (h : DenL β cs vs) (t : DenL β xs us) (n : Nat) : DenL β (cs.take n ++ xs ++ cs.drop (n + xs.length)) (vs.take n ++ us ++ vs.drop (n + us.length)) := by
 have := ((h.take n).append t).append (h.drop (n + xs.length))
 rwa [t.1] at this ⊢
theorem capIs.mono {β β' : List Nat} (h : Pre β β') {off : Nat} {cap : Cap} {c : Nat} (hc : capIs β off cap c) : capIs β' off cap c := by
 cases cap with
 | known n => exact hc
 | ghost ci => exact h _ _ hc
theorem Den.mono {β β' : List Nat} {p : V} {v : Value} (h : Den β p v) (hp : Pre β β') : Den β' p v := by
 induction h with
 | any v => exact .any v
 | cell v h => exact .cell v h
 | bool => exact .bool ..
 | int => exact .int ..
 | str => exact .str ..
 | nilptr => exact .nilptr
 | ptr i off b hb => exact .ptr _ _ _ (hp _ _ hb)
 | gptr => exact .gptr ..
 | nilsl => exact .nilsl
 | esl => exact .esl ..
 | sl k i off len cap b c hb hc hl => exact .sl _ _ _ _ _ _ _ (hp _ _ hb) (hc.mono hp) hl
 | nilmap => exact .nilmap
 | map i b hb => exact .map _ _ (hp _ _ hb)
 | nilfn => exact .nilfn
 | fn f as bs vs us h1 h2 h3 h4 ih1 ih2 => exact .fn _ _ _ _ _ h1 ih1 h3 ih2
 | niliface => exact .niliface
 | iface t v u h ih => exact .iface _ _ _ ih
 | agg cs vs h1 h2 h3 ih => exact .agg _ _ h1 h2 ih
 | tup cs vs h1 h2 ih => exact .tup _ _ h1 ih
theorem DenL.mono {β β' : List Nat} {cs : List V} {vs : List Value} (h : DenL β cs vs) (hp : Pre β β') : DenL β' cs vs := ⟨h.1, fun j c v hc hv => (h.2 j c v hc hv).mono hp⟩
theorem den_cv (β : List Nat) (v : Value) : Den β (cv v) v := by
 unfold cv
 split <;> first | exact .any .. | exact .bool .. | exact .int .. | exact .nilptr | exact .nilsl | exact .nilmap | exact .nilfn | exact .niliface | skip
 rename_i l
 exact .str l
theorem denL_cv (β : List Nat) (vs : List Value) : DenL β (vs.map cv) vs := ⟨by simp, fun j c v hc hv => by
 rw [List.getElem?_map, hv] at hc
 cases hc
 exact den_cv ..⟩
theorem one_cv {v : Value} (h : (cv v).one = true) : v.oneCell' = true := by
 have := den_cv [] v
 generalize cv v = p at h this
 cases this <;> first | rfl | assumption | (simp [V.one] at h)
theorem Den.one {β : List Nat} {p : V} {v : Value} (h : Den β p v) (ho : p.one = true) : v.oneCell' = true := by
 cases h <;> first | rfl | assumption | (simp [V.one] at ho)
def O.live : O → Bool
 | .dead => false
 | _ => true
def liveAt (st : List O) (i : Nat) : Prop := ∃ o, st[i]? = some o ∧ o.live = true
def ObjRel (β : List Nat) (w : World) (b : Nat) : O → Prop
 | .dead => True
 | .box cs => ∃ (vs : List Value) (T : TypeId) (fr : Nat × Nat), w.heap[b]? = some (.cells vs.toArray T fr) ∧ DenL β cs vs ∧ (∀ u ∈ vs, u.oneCell' = true) ∧ (∀ j, j < vs.length → ¬ (fr.1 ≤ j ∧ j < fr.2))
 | .vec k ci cs => ∃ (c : Nat) (vs : List Value) (T : TypeId) (fr : Nat × Nat), β[ci]? = some c ∧ w.heap[b]? = some (.cells vs.toArray T fr) ∧ vs.length = c * k ∧ cs.length ≤ vs.length ∧ DenL β cs (vs.take cs.length) ∧ (∀ u ∈ vs.take cs.length, u.oneCell' = true) ∧ (∀ j, j < vs.length → ¬ (fr.1 ≤ j ∧ j < fr.2))
 | .kmap es clock => ∃ mes : List MapEntry, w.heap[b]? = some (.map mes.toArray clock) ∧ mes.length = es.length ∧ ∀ (j bn : Nat) k v, es[j]? = some (bn, k, v) → ∃ e, mes[j]? = some e ∧ e.born = bn ∧ keyV k = some e.key ∧ Den β v e.val
 | .iter (some m) since seen last => ∃ mb, β[m]? = some mb ∧ w.heap[b]? = some (.mapIter (some mb) since seen.toArray last)
 | .iter none _ _ _ => ∃ ob, w.heap[b]? = some ob
theorem ObjRel.mono {β β' : List Nat} {w w' : World} {b : Nat} {o : O} (h : ObjRel β w b o) (hβ : Pre β β') (hb : o.live = true → w'.heap[b]? = w.heap[b]?) : ObjRel β' w' b o := by
 cases o with
 | dead => trivial
 | box cs =>
  obtain ⟨vs, T, fr, h1, h2, h3, h4⟩ := h
  exact ⟨vs, T, fr, (hb rfl).trans h1, h2.mono hβ, h3, h4⟩
 | vec k ci cs =>
  obtain ⟨c, vs, T, fr, h0, h1, h2, h3, h4, h5, h6⟩ := h
  exact ⟨c, vs, T, fr, hβ _ _ h0, (hb rfl).trans h1, h2, h3, h4.mono hβ, h5, h6⟩
 | kmap es cl =>
  obtain ⟨mes, h1, h2, h3⟩ := h
  refine ⟨mes, (hb rfl).trans h1, h2, fun j bn k v hj => ?_⟩
  obtain ⟨e1, g1, g0, g2, g3⟩ := h3 j bn k v hj
  exact ⟨e1, g1, g0, g2, g3.mono hβ⟩
 | iter m since seen last =>
  cases m with
  | none => obtain ⟨ob, h1⟩ := h; exact ⟨ob, (hb rfl).trans h1⟩
  | some m => obtain ⟨mb, h1, h2⟩ := h; exact ⟨mb, hβ _ _ h1, (hb rfl).trans h2⟩
theorem heap_lt {w : World} {b : Nat} {o : Obj} (h : w.heap[b]? = some o) : b < w.heap.size := (Array.getElem?_eq_some_iff.1 h).1
theorem ObjRel.lt {β : List Nat} {w : World} {b : Nat} {o : O} (h : ObjRel β w b o) (hl : o.live = true) : b < w.heap.size := by
 cases o with
 | dead => cases hl
 | box cs => obtain ⟨vs, T, fr, h1, _⟩ := h; exact heap_lt h1
 | vec k ci cs => obtain ⟨c, vs, T, fr, _, h1, _⟩ := h; exact heap_lt h1
 | kmap es cl => obtain ⟨mes, h1, _⟩ := h; exact heap_lt h1
 | iter m since seen last =>
  cases m with
  | none => obtain ⟨ob, h1⟩ := h; exact heap_lt h1
  | some m => obtain ⟨mb, _, h1⟩ := h; exact heap_lt h1
structure Base where
 w : World
 β : List Nat
 A : Nat → Prop
def Base.Own (B : Base) (b : Nat) : Prop := B.A b ∨ B.w.heap.size ≤ b
theorem Base.lt {B : Base} {b : Nat} (h : ¬ B.Own b) : b < B.w.heap.size := Nat.lt_of_not_le fun hh => h (.inr hh)
def GlobOk (gl : List (Nat × List V)) (B : Base) : Prop := ∀ g cs, gl.lookup g = some cs → ¬ B.Own g ∧ ∃ (vs : List Value) (T : TypeId) (fr : Nat × Nat), B.w.heap[g]? = some (.cells vs.toArray T fr) ∧ cs.length ≤ vs.length ∧ DenL [] cs (vs.take cs.length) ∧ ∀ u ∈ vs.take cs.length, u.oneCell' = true
structure Inv (gl : List (Nat × List V)) (B : Base) (w : World) (β : List Nat) (st : List O) : Prop where
 len : β.length = st.length
 inj : ∀ (i j b : Nat), β[i]? = some b → β[j]? = some b → liveAt st i → liveAt st j → i = j
 obj : ∀ (i b : Nat) o, β[i]? = some b → st[i]? = some o → ObjRel β w b o
 own : ∀ (i b : Nat), β[i]? = some b → liveAt st i → B.Own b
 size : B.w.heap.size ≤ w.heap.size
 keep : ∀ b, ¬ B.Own b → w.heap[b]? = B.w.heap[b]?
 os : w.os = B.w.os
 tape : w.tape = B.w.tape
 output : w.output = B.w.output
 glob : GlobOk gl B
 pre : Pre B.β β
theorem liveAt_set {st : List O} {i j : Nat} {x y : O} (hy : st[i]? = some y) (hyl : y.live = true) (h : liveAt (st.set i x) j) : liveAt st j := by
 obtain ⟨o, h1, h2⟩ := h
 rw [List.getElem?_set] at h1
 split at h1
 ·rename_i hij; subst hij; exact ⟨y, hy, hyl⟩
 ·exact ⟨o, h1, h2⟩
theorem liveAt_snoc {st : List O} {o : O} {i : Nat} (h : liveAt (st ++ [o]) i) (hi : i < st.length) : liveAt st i := by
 obtain ⟨x, h1, h2⟩ := h
 rw [List.getElem?_append_left hi] at h1
 exact ⟨x, h1, h2⟩
section inv
variable {gl : List (Nat × List V)} {B : Base} {w : World} {β : List Nat} {st : List O}
theorem Inv.ghost (hi : Inv gl B w β st) (c : Nat) : Inv gl B w (β ++ [c]) (st ++ [.dead]) := by
 have hlen := hi.len
 have hget : ∀ {i b}, (β ++ [c])[i]? = some b → liveAt (st ++ [.dead]) i → β[i]? = some b ∧ liveAt st i := fun {i b} h l => by
  have hlt : i < st.length := by
   obtain ⟨o, h1, h2⟩ := l
   rcases Nat.lt_or_ge i st.length with h | h
   ·exact h
   ·rw [List.getElem?_append_right h] at h1
    cases hk : i - st.length with
    | zero => rw [hk] at h1; simp at h1; subst h1; cases h2
    | succ n => rw [hk] at h1; simp at h1
  exact ⟨by rwa [List.getElem?_append_left (by omega)] at h, liveAt_snoc l hlt⟩
 refine ⟨by simp [hlen], ?_, ?_, ?_, hi.size, hi.keep, hi.os, hi.tape, hi.output, hi.glob, hi.pre.trans (Pre.snoc _ _)⟩
 ·intro i j b h1 h2 l1 l2
  obtain ⟨a1, a2⟩ := hget h1 l1
  obtain ⟨b1, b2⟩ := hget h2 l2
  exact hi.inj i j b a1 b1 a2 b2
 ·intro i b o h1 h2
  cases hl : o.live with
  | false => cases o <;> first | trivial | cases hl
  | true =>
   obtain ⟨a1, a2⟩ := hget h1 ⟨o, h2, hl⟩
   obtain ⟨x, hx, _⟩ := a2
   rw [List.getElem?_append_left (List.getElem?_eq_some_iff.1 hx).1] at h2
   exact (hi.obj i b o a1 h2).mono (Pre.snoc _ _) fun _ => rfl
 ·intro i b h1 l1
  obtain ⟨a1, a2⟩ := hget h1 l1
  exact hi.own i b a1 a2
theorem Inv.push (hi : Inv gl B w β st) {w' : World} {b : Nat} {x : O} (hb : w.heap.size ≤ b) (hs : w.heap.size ≤ w'.heap.size) (hsame : ∀ k, k < w.heap.size → w'.heap[k]? = w.heap[k]?) (ho : w'.os = w.os) (ht : w'.tape = w.tape) (hu : w'.output = w.output)
  (hx : ObjRel (β ++ [b]) w' b x) : Inv gl B w' (β ++ [b]) (st ++ [x]) := by
 have hlen := hi.len
 have hget : ∀ {i c}, (β ++ [b])[i]? = some c → (i < st.length ∧ β[i]? = some c) ∨ (i = st.length ∧ c = b) := by
  intro i c h
  by_cases hi' : i < β.length
  ·rw [List.getElem?_append_left hi'] at h; exact .inl ⟨by omega, h⟩
  ·rw [List.getElem?_append_right (by omega)] at h
   cases hk : i - β.length with
   | zero => rw [hk] at h; simp at h; exact .inr ⟨by omega, h.symm⟩
   | succ n => rw [hk] at h; simp at h
 have hlt : ∀ {i c}, β[i]? = some c → liveAt st i → c < w.heap.size := fun {i c} hb ⟨o, ho, hl⟩ => (hi.obj i c o hb ho).lt hl
 refine ⟨by simp [hlen], ?_, ?_, ?_, Nat.le_trans hi.size hs, ?_, ho.trans hi.os, ht.trans hi.tape, hu.trans hi.output, hi.glob, hi.pre.trans (Pre.snoc _ _)⟩
 ·intro i j c h1 h2 l1 l2
  rcases hget h1 with ⟨a1, b1⟩ | ⟨a1, b1⟩ <;> rcases hget h2 with ⟨a2, b2⟩ | ⟨a2, b2⟩
  ·exact hi.inj i j c b1 b2 (liveAt_snoc l1 a1) (liveAt_snoc l2 a2)
  ·have := hlt b1 (liveAt_snoc l1 a1); omega
  ·have := hlt b2 (liveAt_snoc l2 a2); omega
  ·omega
 ·intro i c o h1 h2
  rcases hget h1 with ⟨a1, b1⟩ | ⟨a1, b1⟩
  ·rw [List.getElem?_append_left a1] at h2
   exact (hi.obj i c o b1 h2).mono (Pre.snoc _ _) fun hl => hsame c (hlt b1 ⟨o, h2, hl⟩)
  ·subst a1 b1
   rw [List.getElem?_append_right (Nat.le_refl _)] at h2
   simp at h2
   subst h2
   exact hx
 ·intro i c h1 l1
  rcases hget h1 with ⟨a1, b1⟩ | ⟨a1, b1⟩
  ·exact hi.own i c b1 (liveAt_snoc l1 a1)
  ·rw [b1]; exact .inr (Nat.le_trans hi.size hb)
 ·intro c hc; rw [hsame c (Nat.lt_of_lt_of_le (Base.lt hc) hi.size)]; exact hi.keep c hc
theorem Inv.write (hi : Inv gl B w β st) {i b : Nat} {y x : O} (hb : β[i]? = some b) (hy : st[i]? = some y) (hyl : y.live = true) {w' : World} (hsz : w'.heap.size = w.heap.size) (hos : w'.os = w.os)
  (htp : w'.tape = w.tape) (hou : w'.output = w.output) (hoth : ∀ k, k ≠ b → w'.heap[k]? = w.heap[k]?) (hx : ObjRel β w' b x) : Inv gl B w' β (st.set i x) := by
 refine ⟨by simp [hi.len], ?_, ?_, ?_, by rw [hsz]; exact hi.size, ?_, hos.trans hi.os, htp.trans hi.tape, hou.trans hi.output, hi.glob, hi.pre⟩
 ·intro j k c h1 h2 l1 l2
  exact hi.inj j k c h1 h2 (liveAt_set hy hyl l1) (liveAt_set hy hyl l2)
 ·intro j c o h1 h2
  rw [List.getElem?_set] at h2
  split at h2
  ·rename_i hij
   subst hij
   rw [hb] at h1
   cases h1
   split at h2
   ·cases h2; exact hx
   ·cases h2
  ·rename_i hij
   refine (hi.obj j c o h1 h2).mono (Pre.refl _) fun hl => hoth c fun e => ?_
   subst e; exact hij (hi.inj i j c hb h1 ⟨y, hy, hyl⟩ ⟨o, h2, hl⟩)
 ·intro j c h1 l1; exact hi.own j c h1 (liveAt_set hy hyl l1)
 ·intro k hk
  have hne : k ≠ b := fun e => by
   subst e
   exact hk (hi.own i k hb ⟨y, hy, hyl⟩)
  rw [hoth k hne]; exact hi.keep k hk
theorem Inv.kill (hi : Inv gl B w β st) (i : Nat) : Inv gl B w β (st.set i .dead) := by
 have lv : ∀ {j : Nat}, liveAt (st.set i .dead) j → liveAt st j := fun {j} ⟨o, h1, h2⟩ => by
  rw [List.getElem?_set] at h1
  split at h1
  ·split at h1
   ·cases h1; cases h2
   ·cases h1
  ·exact ⟨o, h1, h2⟩
 refine ⟨by simp [hi.len], fun j k c h1 h2 l1 l2 => hi.inj j k c h1 h2 (lv l1) (lv l2), ?_, fun j c h1 l1 => hi.own j c h1 (lv l1), hi.size, hi.keep, hi.os, hi.tape, hi.output, hi.glob, hi.pre⟩
 intro j c o h1 h2
 rw [List.getElem?_set] at h2
 split at h2
 ·split at h2
  ·cases h2; trivial
  ·cases h2
 ·exact hi.obj j c o h1 h2
theorem Inv.move (hi : Inv gl B w β st) {i b : Nat} {x y : O} (hb : β[i]? = some b) (hx : st[i]? = some x) (hxl : x.live = true) (hy : ObjRel (β ++ [b]) w b y) : Inv gl B w (β ++ [b]) (st.set i .dead ++ [y]) := by
 have hk := hi.kill i
 have hlen := hi.len
 have hget : ∀ {j c}, (β ++ [b])[j]? = some c → (j < st.length ∧ β[j]? = some c) ∨ (j = st.length ∧ c = b) := by
  intro j c h
  by_cases hi' : j < β.length
  ·rw [List.getElem?_append_left hi'] at h; exact .inl ⟨by omega, h⟩
  ·rw [List.getElem?_append_right (by omega)] at h
   cases hk : j - β.length with
   | zero => rw [hk] at h; simp at h; exact .inr ⟨by omega, h.symm⟩
   | succ n => rw [hk] at h; simp at h
 have lv : ∀ {j : Nat}, liveAt (st.set i .dead ++ [y]) j → j < st.length → liveAt (st.set i .dead) j ∧ liveAt st j ∧ j ≠ i := fun {j} l hj => by
  have h := liveAt_snoc l (by simpa using hj)
  refine ⟨h, ?_⟩
  obtain ⟨o, h1, h2⟩ := h
  rw [List.getElem?_set] at h1
  split at h1
  ·split at h1
   ·cases h1; cases h2
   ·cases h1
  ·rename_i hij; exact ⟨⟨o, h1, h2⟩, fun e => hij e.symm⟩
 refine ⟨by simp [hlen], ?_, ?_, ?_, hi.size, hi.keep, hi.os, hi.tape, hi.output, hi.glob, hi.pre.trans (Pre.snoc _ _)⟩
 ·intro j k c h1 h2 l1 l2
  rcases hget h1 with ⟨a1, b1⟩ | ⟨a1, b1⟩ <;> rcases hget h2 with ⟨a2, b2⟩ | ⟨a2, b2⟩
  ·exact hk.inj j k c b1 b2 (lv l1 a1).1 (lv l2 a2).1
  ·subst b2; exact ((lv l1 a1).2.2 (hi.inj j i _ b1 hb (lv l1 a1).2.1 ⟨x, hx, hxl⟩)).elim
  ·subst b1; exact ((lv l2 a2).2.2 (hi.inj k i _ b2 hb (lv l2 a2).2.1 ⟨x, hx, hxl⟩)).elim
  ·omega
 ·intro j c o h1 h2
  rcases hget h1 with ⟨a1, b1⟩ | ⟨a1, b1⟩
  ·rw [List.getElem?_append_left (by simpa using a1)] at h2
   exact (hk.obj j c o b1 h2).mono (Pre.snoc _ _) fun _ => rfl
  ·subst a1 b1
   rw [List.getElem?_append_right (by simp)] at h2
   simp at h2
   subst h2
   exact hy
 ·intro j c h1 l1
  rcases hget h1 with ⟨a1, b1⟩ | ⟨a1, b1⟩
  ·exact hi.own j c b1 (lv l1 a1).2.1
  ·subst b1; exact hi.own i _ hb ⟨x, hx, hxl⟩
end inv
end
end Go.Ev
