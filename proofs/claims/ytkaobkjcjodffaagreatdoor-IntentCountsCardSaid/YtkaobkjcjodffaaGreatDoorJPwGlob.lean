/-
  Package-level arrays of plain values that never change; elements of arrays that are values.
  Strings of bytes: the conversion of a slice of bytes to a string.
  The wrap of a row, with the row's own condition handed on to the contract.
  Byte slices: a string as bytes and back, slices of arrays of the function's own, appending one array to another.
  Appending a string to bytes of the function's own; arrays of a fixed length as rows of elements.
  An array whose elements refer to other arrays of the function's own: kept as a box, and back.
  Lookups in a map of the function's own that ask for the value alone.
-/
import Derived.Test.YtkaobkjcjodffaaGreatDoorJPwFork
import Derived.Test.YtkaobkjcjodffaaGreatDoorJPwMap
import Derived.Laws.BytesString
import Derived.Test.YtkaobkjcjodffaaGreatDoorJPwEq
import Derived.Lib.ConvBytes
import Derived.Test.YtkaobkjcjodffaaGreatDoorJPwAuto
namespace Go.Pw
open Go Go.RowKit
section
variable {P : Program} {Gl : Glob} {B : Base} {tys : List TI} {env : List PV} {st : List PObj} {o : Oper} {A : Nat → Prop} {w : World} {β : List Nat} {tmps : List Value}
structure GRow (Gl : Glob) (g : Nat) (xs : List PV) : Prop where
  lt : g < Gl.n
  lit : xs.all isLit = true
  cell : ∀ w, GlobW Gl w → ∀ (j : Nat) x, xs[j]? = some x → w.cell? ⟨g, j, none⟩ = some (litV x)
theorem GRow.fixed {g : Nat} {xs : List PV} (h : GRow Gl g xs) (hi : Inv Gl B A w β st) : A g := hi.old g (hi.glob g h.lt).2.2.2
theorem isLit_cells {p : PV} (h : isLit p = true) : p.cells = [p] := by cases p <;> first | rfl | cases h
theorem v_gslice {t : TypeId} {x : Operand} {g : Nat} {xs : List PV} {n e s z1 z2 : Nat} {z3 : Option (List PV)} (hT : Tys P tys) (ho : o.op = .slice t x none none none) (ht : tys[t]? = some ⟨.arr n e s, z1, z2, z3⟩) (hs : s = 1)
    (hx : pe env x = .gptr g 0) (hg : GRow Gl g xs) (hn : n = xs.length) (h0 : n ≠ 0) (hm : n ≤ maxLen) : OpV P Gl B o env (.sl xs) := fun st A w β tmps hi he => by
  obtain ⟨ti, d, hi1, hu, htk, _⟩ := tyOf_spec (hT _ _ ht)
  obtain ⟨rfl, hse⟩ := tkOf_arr htk
  subst hs
  have hd := he.eval [] x
  rw [hx] at hd
  have hv := hd.gptr_inv
  have hbd := run_bounds (P := P) (w := w) he (lo := none) (hi := none) (n := n) (cap := n) false (l := 0) (h := (n : Int)) rfl rfl (Int.le_refl _) (by omega) (by omega)
  have hgw := hi.globW
  refine ⟨.slice (some ⟨g, 0, none⟩) n n, ?_, ?_⟩
  · simp only [execOp, ho, Instr.sliceAt, hv, Sem.run_bind, run_underlying hu, Result.andThen_ok, Instr.sureAddr, Sem.run_pure]
    have hbd' : (Instr.sliceBounds false n n none none none).run P w = .ok (0, n, n) w := by simpa using hbd
    simp only [Option.map_none, hbd', Result.andThen_ok, run_size hse]
    rw [if_neg h0]
    simp [Addr.add]
  · rw [hn]
    refine .sl β 1 xs ⟨g, 0, none⟩ xs.length (fun i _ => litV (xs.getD i .any)) (fun _ => ⟨hg.fixed hi, rfl⟩) (Nat.le_refl _) (hn ▸ hm) (fun y hy => by rw [isLit_cells (List.all_eq_true.1 hg.lit y hy)]; rfl) (fun i y j c hy hc => ?_) (fun i y j c hy hc => ?_)
    all_goals
      have hyl := List.all_eq_true.1 hg.lit y (List.mem_of_getElem? hy)
      rw [isLit_cells hyl] at hc
      obtain ⟨rfl, rfl⟩ : j = 0 ∧ c = y := by cases j <;> simp at hc; exact ⟨rfl, hc.symm⟩
    · rw [show (0 : Nat) + (i * 1 + 0) = i by omega, hg.cell w hgw i _ hy, List.getD, hy]; rfl
    · rw [List.getD, hy]; exact den_lit _ hyl
theorem v_gload {t : TypeId} {x : Operand} {g : Nat} {xs : List PV} {n e s z2 : Nat} {z3 : Option (List PV)} (hT : Tys P tys) (ho : o.op = .load t x) (ht : tys[t]? = some ⟨.arr n e s, n, z2, z3⟩)
    (hx : pe env x = .gptr g 0) (hg : GRow Gl g xs) (hn : n = xs.length) : OpV P Gl B o env (.agg xs) := fun st A w β tmps hi he => by
  obtain ⟨ti, d, hi1, hu, htk, hts, _⟩ := tyOf_spec (hT _ _ ht)
  have hag : aggD d = true := by rw [← tkOf_agg htk (fun y hy => by subst hy; exact fun h => by cases h)]; rfl
  have hd := he.eval [] x
  rw [hx] at hd
  have hv := hd.gptr_inv
  have hgw := hi.globW
  have hsz : szOf P t = some n := by simp only [szOf, hi1, Option.map_some]; exact congrArg some hts.symm
  obtain ⟨v, hr, hden⟩ := run_loadVar_cells (P := P) (A := A) (w := w) (β := β) xs g 0 (fun j => litV (xs.getD j .any)) (fun j c hc => by rw [Nat.zero_add, hg.cell w hgw j c hc, List.getD, hc]; rfl)
    (fun j c hc => by rw [List.getD, hc]; exact den_lit _ (List.all_eq_true.1 hg.lit c (List.mem_of_getElem? hc))) hu hsz (off := 0) (x := .agg xs) (by rw [hag]; simp [part?, hn])
  refine ⟨v, ?_, hden⟩
  simp only [execOp, ho, hv, Instr.loadAt, Instr.sureAddr, Sem.run_bind, Sem.run_pure, Result.andThen_ok]
  rw [hr]; rfl
end
end Go.Pw
namespace Go.Pw
open Go
def eByte (b : UInt8) : PV := .int .u8 (b.toNat : Int)
theorem push_bytes : ∀ (bs acc : List UInt8), (bs.map fun b => (b.toNat : Int)).foldl (fun r n => r.push (UInt8.ofNat n.toNat)) (⟨acc.toArray⟩ : ByteArray) = ⟨(acc ++ bs).toArray⟩
  | [], acc => by simp
  | b :: bs, acc => by
    rw [List.map_cons, List.foldl_cons]
    have : (⟨acc.toArray⟩ : ByteArray).push (UInt8.ofNat ((b.toNat : Int)).toNat) = ⟨(acc ++ [b]).toArray⟩ := by
      simp [ByteArray.push]
    rw [this, push_bytes bs (acc ++ [b])]
    simp
theorem run_bstr {P : Program} (w : World) {s t e : TypeId} (a : Addr) (cap : Nat) (bs : List UInt8) (hs : P.underlying s = some (.slice e)) (he : P.underlying e = some (.int .u8)) (ht : P.underlying t = some .string)
    (hc : ∀ (j : Nat) b, bs[j]? = some b → w.cell? (a.add j) = some (.int .u8 (b.toNat : Int))) : (Go.convert s t (.slice (some a) bs.length cap)).run P w = .ok (.string ⟨bs.toArray⟩) w := by
  rw [run_convert_bytes_string w s t e (some a) bs.length cap hs he ht]
  have h := run_loadCells_list (P := P) (w := w) a ((bs.map fun b => (b.toNat : Int)).map (Value.int .u8)) (fun j v hv => by
    rw [List.getElem?_map, List.getElem?_map] at hv
    cases hb : bs[j]? with
    | none => rw [hb] at hv; cases hv
    | some b => rw [hb] at hv; cases hv; exact hc j b hb)
  rw [List.length_map, List.length_map] at h
  rw [run_bytesToString w a bs.length cap (bs.map fun b => (b.toNat : Int)) h]
  have := push_bytes bs []
  rw [List.nil_append] at this
  rw [← this]; rfl
section
variable {P : Program} {Gl : Glob} {B : Base} {tys : List TI} {env : List PV} {st : List PObj} {o : Oper}
theorem tkOf_slI {d : TypeDesc} {e s b : Nat} (h : TK.sl e s b = tkOf P d) : d = .slice e := by
  cases d <;> simp only [tkOf] at h <;> first | (cases h; done) | skip
  all_goals (split at h <;> cases h)
  rfl
theorem v_bstr {s t : TypeId} {x : Operand} {bs : List UInt8} (hT : Tys P tys) (ho : o.op = .convert s t x) {e es eb z1 z2 z4 z5 z7 z8 : Nat} {z3 z6 z9 : Option (List PV)} (hs : tys[s]? = some ⟨.sl e es eb, z1, z2, z3⟩) (he : tys[e]? = some ⟨.int .u8, z4, z5, z6⟩) (ht : tys[t]? = some ⟨.str, z7, z8, z9⟩)
    (hx : pe env x = .sl (bs.map eByte)) : OpV P Gl B o env (.str bs) := fun _ A w β tmps _ hE => by
  obtain ⟨_, d1, _, hu1, htk1, _⟩ := tyOf_spec (hT _ _ hs)
  obtain ⟨_, d2, _, hu2, htk2, _⟩ := tyOf_spec (hT _ _ he)
  obtain ⟨_, d3, _, hu3, htk3, _⟩ := tyOf_spec (hT _ _ ht)
  have q1 := tkOf_slI htk1
  have q2 := tkOf_int htk2
  have q3 := tkOf_str htk3
  subst q1 q2 q3
  refine ⟨.string ⟨bs.toArray⟩, ?_, .str ..⟩
  have hd := hE.eval [] x
  rw [hx] at hd
  generalize hv : (⟨tmps.toArray, []⟩ : Act).eval x = v at hd
  simp only [execOp, ho, hv]
  generalize hxs : bs.map eByte = xs at hd
  cases hd with
  | slnil =>
    have : bs = [] := by cases bs with | nil => rfl | cons b bs => cases hxs
    subst this
    simp [Go.convert, run_underlying hu1, run_underlying hu2, run_underlying hu3, Conv.bytesToString, Sem.run_bind, Sem.run_pure]
    rfl
  | sl _ k _ a cap f g1 g2 g3 g4 g5 g6 =>
    subst hxs
    have hr := run_bstr (P := P) w a cap bs hu1 hu2 hu3 (fun j b hb => by
      have hj : (bs.map eByte)[j]? = some (eByte b) := by rw [List.getElem?_map, hb]; rfl
      have hk : k = 1 := by rw [← g4 _ (List.mem_of_getElem? hj)]; rfl
      have hne : bs.map eByte ≠ [] := by intro h; rw [h] at hj; cases hj
      have h5 := g5 j _ 0 _ hj rfl
      have h6 := (g6 j _ 0 _ hj rfl).int_inv
      rw [h6, hk, Nat.mul_one, Nat.add_zero] at h5
      obtain ⟨ab, ao, asp⟩ := a
      have := (g1 hne).2
      simp only at this
      subst this
      rw [addr_add]
      exact h5)
    rw [List.length_map, Sem.run_bind, hr]
    simp
end
end Go.Pw
namespace Go.Pw
open Go
section
variable {P : Program} {Gl : Glob} {B : Base} {env : List PV} {st : List PObj} {Q : Post}
theorem LeBy.put {R : PV → PV → Prop} : ∀ {xs ys : List PV} {t : Nat} {x y : PV}, LeBy R xs ys → xs[t]? = some x → R x y → LeBy R xs (ys.set t y)
  | [], [], _, _, _, _, h, _ => by simp at h
  | x :: xs, y :: ys, 0, _, _, h, hx, hr => by cases hx; exact ⟨hr, h.2⟩
  | x :: xs, y :: ys, t + 1, _, _, h, hx, hr => ⟨h.1, LeBy.put h.2 (by simpa using hx) hr⟩
  | [], _ :: _, _, _, _, h, _, _ => h.elim
  | _ :: _, [], _, _, _, h, _, _ => h.elim
theorem pw_frz1 (i t : Nat) {c : Code} {k m cap k' : Nat} {xs : List PV} (ht : env[t]? = some (.msl k i 0 m cap)) (hst : st[i]? = some (.arr k' xs cap)) (hm : m = xs.length)
    (h : PW P Gl B c ((env.map (wipe fun j => !(j == i))).set t (.sl xs)) (killF (fun j => j == i) 0 st) Q) : PW P Gl B c env st Q :=
  pw_freeze (fun j => j == i) (killF_spec _ st st 0) (LeBy.put (FLe.wipeF _ st env) ht (.inr (.inr (.inr (.inl ⟨k, i, m, cap, k', xs, rfl, by simp, hst, hm, rfl⟩))))) h
end
end Go.Pw
namespace Go.Pw
open Go Go.RowKit Go.WideShapes
theorem handed_shapedX {H : Type} {enc : TypeId × Value → H} {a : Assume} {C : Checked} {os : Os} {f : FuncId} {fn : Func} {s : ChangeSpec} {conds : List PathCond} {apart fresh handsOn again : Bool} {X : World → Array Value → Prop}
    (hX : ∀ (w w' : World) (args : Array Value), w.heap = w'.heap → X w args → X w' args)
    (own : ownKnob C.prog.godebug = none) (started : os.Started) (noInit : C.prog.inits.idxOf? f = none) (hfn : C.prog.funcs[f]? = some fn)
    (witness : ∃ (w : World) (tape : Tape) (i : Input), w.os = os ∧ (w.forCall tape i).Shaped C.prog ∧ i.vars = [] ∧ Input.okWide C.prog (w.forCall tape i) .any w.heap.size f i ∧
      ((s.pre enc C.prog fn conds apart (w.forCall tape i).memory i.args ∧ X (w.forCall tape i).memory i.args) ∧ sizedMet enc C.prog fn (OpenSpec.ofChange s) apart (w.forCall tape i).memory i.args) ∧ a.holds C.prog (lone (Frame.enter C.prog f i.args .normal) [] (w.forCall tape i)))
    (contract : ∀ (W : World) (base : Nat) (args : Array Value) (ds gs : List (DataW H)) (before : List MemPlace),
      (∀ (j : Nat) t v, fn.params[j]? = some t → args[j]? = some v → Value.okWide C.prog W .any base t v) →
      DataW.Whole enc C.prog fn.params.toList s.vars apart W args.toList ds gs before → W.ShapedOpen C.prog → X W args →
      Calls C.prog f args W fun e W' => ∃ v, e = .returned v ∧ s.post enc C.prog fn apart fresh handsOn again W args v W') :
    ReturnsInHanded a C os f .any (fun w args => (s.pre enc C.prog fn conds apart w args ∧ X w args) ∧ sizedMet enc C.prog fn (OpenSpec.ofChange s) apart w args) (s.post enc C.prog fn apart fresh handsOn again) := by
  refine returnsInHanded_of_calls own started noInit witness ?_
  intro w tape i _ hsh _ hok hpre hholds
  obtain ⟨_, _, _, fn', hfn', _, _, _, _, hval⟩ := hok
  obtain rfl : fn' = fn := Option.some.inj (hfn'.symm.trans hfn)
  obtain ⟨⟨⟨ds, gs, before, hw, hc⟩, hx⟩, hz⟩ := hpre
  refine (contract (w.forCall tape i) w.heap.size i.args ds gs before hval (DataW.Whole.of_heap (w' := w.forCall tape i) (by rfl) hw) hsh (hX _ _ _ (by rfl) hx)).mono fun e W' ⟨v, he, hp⟩ => ?_
  subst he
  exact ChangeSpec.post_blind hp
end Go.Pw
namespace Go.Pw
open Go
section rules
variable {P : Program} {Gl : Glob} {B : Base} {tys : List TI} {env : List PV} {st : List PObj} {ops : Array Oper} {rest : List Oper} {o : Oper} {Q : Post}
  {A : Nat → Prop} {w : World} {β : List Nat} {tmps : List Value}
theorem Inv.shrink {s i cap : Nat} {xs : List PV} (hi : Inv Gl B A w β st) (hst : st[i]? = some (.arr s xs cap)) (n : Nat) : Inv Gl B A w β (st.set i (.arr s (xs.take n) cap)) := by
  by_cases hc : cap = 0
  · subst hc
    have hil : i < st.length := (List.getElem?_eq_some_iff.1 hst).1
    have hlen := hi.len
    have hob := hi.obj i (β[i]'(by omega)) _ (List.getElem?_eq_getElem (by omega)) hst
    have : xs = [] := List.eq_nil_of_length_eq_zero (by have := hob.1; omega)
    subst this
    have e : st.set i (.arr s (([] : List PV).take n) 0) = st := by
      apply List.ext_getElem?
      intro j
      rw [List.getElem?_set]
      by_cases hij : i = j
      · subst hij
        rw [if_pos rfl, if_pos hil, hst]
        cases n <;> rfl
      · rw [if_neg hij]
    rw [e]; exact hi
  · have hil : i < st.length := (List.getElem?_eq_some_iff.1 hst).1
    have hlen := hi.len
    have hb : β[i]? = some (β[i]'(by omega)) := List.getElem?_eq_getElem (by omega)
    have hlive : PObj.live (.arr s xs cap) = true := by cases cap with | zero => exact (hc rfl).elim | succ c => rfl
    obtain ⟨g1, g2, g3, g4⟩ := hi.obj i _ _ hb hst
    refine (hi.write (x := .arr s (xs.take n) cap) hb hst hlive rfl rfl rfl rfl (fun _ _ => rfl) ⟨?_, g2, fun x hx => g3 x (List.mem_of_mem_take hx), fun hne => ?_⟩).1
    · rw [List.length_take]; omega
    · obtain ⟨vs, T, fr, q1, q2, q3, q4⟩ := g4 hne
      refine ⟨vs, T, fr, q1, q2, q3, fun k x j c hx hcj => ?_⟩
      rw [List.getElem?_take] at hx
      split at hx
      · exact q4 k x j c hx hcj
      · cases hx
end rules
end Go.Pw
namespace Go.Pw
open Go
section
variable {P : Program} {Gl : Glob} {B : Base} {tys : List TI} {env : List PV} {st : List PObj} {o : Oper} {Q : Post}
theorem pw_shrink (i n : Nat) {c : Code} {k cap : Nat} {xs : List PV} (hst : st[i]? = some (.arr k xs cap)) (h : PW P Gl B c env (st.set i (.arr k (xs.take n) cap)) Q) : PW P Gl B c env st Q := fun A w β tmps hi he => h A w β tmps (hi.shrink hst n) he
end
end Go.Pw
namespace Go.Pw
open Go
section rules
variable {P : Program} {Gl : Glob} {B : Base} {tys : List TI} {env : List PV} {st : List PObj} {ops : Array Oper} {rest : List Oper} {o : Oper} {Q : Post}
  {A : Nat → Prop} {w : World} {β : List Nat} {tmps : List Value}
theorem Inv.boxArr {i : Nat} {cs : List PV} (hi : Inv Gl B A w β st) (hst : st[i]? = some (.box cs)) (hcell : ∀ c ∈ cs, c.cells = [c]) (hg : cs.all (PV.refs (fun _ => false) 5) = true) (hm : cs.length ≤ maxLen) : Inv Gl B A w β (st.set i (.arr 1 cs cs.length)) := by
  have hil : i < st.length := (List.getElem?_eq_some_iff.1 hst).1
  have hlen := hi.len
  have hb : β[i]? = some (β[i]'(by omega)) := List.getElem?_eq_getElem (by omega)
  obtain ⟨vs, T, fr, g1, g2, g3, g4⟩ := hi.obj i _ _ hb hst
  refine (hi.write (x := .arr 1 cs cs.length) hb hst rfl rfl rfl rfl rfl (fun _ _ => rfl) ⟨Nat.le_refl _, hm, fun x hx => by rw [hcell x hx]; rfl, fun _ => ⟨vs, T, fr, g1, by omega, fun j hj => g3 j (by omega), fun k x j c hx hc => ?_⟩⟩).1
  have hxm := List.mem_of_getElem? hx
  rw [hcell x hxm] at hc
  have hj0 : j = 0 := by
    have := (List.getElem?_eq_some_iff.1 hc).1
    simp at this
    omega
  subst hj0
  have hc' : x = c := by simpa using hc
  subst hc'
  have hk : k < vs.length := by rw [g2]; exact (List.getElem?_eq_some_iff.1 hx).1
  refine ⟨vs[k], by rw [Nat.mul_one, Nat.add_zero]; exact List.getElem?_eq_getElem hk, ?_⟩
  exact (g4 k x _ hx (List.getElem?_eq_getElem hk)).ground (List.all_eq_true.1 hg x hxm)
theorem pw_boxArr (i : Nat) {c : Code} {cs : List PV} (hst : st[i]? = some (.box cs)) (hcell : ∀ c ∈ cs, c.cells = [c]) (hg : cs.all (PV.refs (fun _ => false) 5) = true) (hm : cs.length ≤ maxLen) (h : PW P Gl B c env (st.set i (.arr 1 cs cs.length)) Q) : PW P Gl B c env st Q :=
  fun A w β tmps hi he => h A w β tmps (hi.boxArr hst hcell hg hm) he
theorem Inv.arrBox {i cap : Nat} {cs : List PV} (hi : Inv Gl B A w β st) (hst : st[i]? = some (.arr 1 cs cap)) (hc : cs.length = cap) (hpos : cap ≠ 0) (hcell : ∀ c ∈ cs, c.cells = [c]) : Inv Gl B A w β (st.set i (.box cs)) := by
  have hil : i < st.length := (List.getElem?_eq_some_iff.1 hst).1
  have hlen := hi.len
  have hb : β[i]? = some (β[i]'(by omega)) := List.getElem?_eq_getElem (by omega)
  have hlive : PObj.live (.arr 1 cs cap) = true := by cases cap with | zero => exact (hpos rfl).elim | succ c => rfl
  obtain ⟨q1, q2, q3, q4⟩ := hi.obj i _ _ hb hst
  obtain ⟨vs, T, fr, g1, g2, g3, g4⟩ := q4 hpos
  refine (hi.write (x := .box cs) hb hst hlive rfl rfl rfl rfl (fun _ _ => rfl) ⟨vs, T, fr, g1, by omega, fun j hj => g3 j (by omega), fun j c v hcj hv => ?_⟩).1
  have hcm := List.mem_of_getElem? hcj
  obtain ⟨v', hv', hd⟩ := g4 j c 0 c hcj (by rw [hcell c hcm]; rfl)
  rw [Nat.mul_one, Nat.add_zero, hv] at hv'
  cases hv'
  exact hd.lift
theorem pw_arrBox (i : Nat) {c : Code} {cap : Nat} {cs : List PV} (hst : st[i]? = some (.arr 1 cs cap)) (hc : cs.length = cap) (hpos : cap ≠ 0) (hcell : ∀ c ∈ cs, c.cells = [c]) (h : PW P Gl B c env (st.set i (.box cs)) Q) : PW P Gl B c env st Q :=
  fun A w β tmps hi he => h A w β tmps (hi.arrBox hst hc hpos hcell) he
end rules
end Go.Pw
namespace Go.Pw
open Go
section
variable {P : Program} {Gl : Glob} {B : Base} {tys : List TI} {env : List PV} {st : List PObj} {ops : Array Oper} {rest : List Oper} {o : Oper} {Q : Post}
  {A : Nat → Prop} {w : World} {β : List Nat}
theorem v_indexB {t : TypeId} {x y : Operand} {j n cap : Nat} {k : IntKind} {i : Int} (m : Nat) (hT : Tys P tys) (ho : o.op = .indexAddr t x y) {e b z1 z2 : Nat} {z3 : Option (List PV)} (ht : tys[t]? = some ⟨.sl e 1 b, z1, z2, z3⟩)
    (hx : pe env x = .msl 1 j 0 n cap) (hy : pe env y = .int k i) (hm : i.toNat = m) (h0 : 0 ≤ i) (h1 : m < n) (hcap : cap ≠ 0) : OpV P Gl B o env (.ptr j m) := fun _ A w β tmps _ he => by
  obtain ⟨ti, d, hi1, hu, htk, _⟩ := tyOf_spec (hT _ _ ht)
  obtain ⟨rfl, hse⟩ := tkOf_sl' htk
  have hd := he.eval [] x
  rw [hx] at hd
  obtain ⟨bb, hb, hv⟩ := hd.msl_inv hcap
  subst hm
  refine ⟨.pointer (some ⟨bb, i.toNat, none⟩), ?_, .ptr _ _ _ _ hb⟩
  simp only [execOp, ho, int_of he hy, hv, Instr.indexAt, asIntOf, Sem.run_bind, Sem.run_pure, Result.andThen_ok, run_underlying hu]
  have hc : 0 ≤ i ∧ i < ((n : Nat) : Int) := ⟨h0, by omega⟩
  simp only [Sem.run_pure, Result.andThen_ok, if_pos hc, Sem.run_bind, run_size hse, addr_add, Nat.mul_one, Nat.zero_add]
theorem PObj.dead_live {o : PObj} (h : o.live = false) {i j : Nat} (hl : liveAt (st.set i o) j) : i ≠ j ∧ liveAt st j := by
  obtain ⟨x, hx, hxl⟩ := hl
  rw [List.getElem?_set] at hx
  split at hx
  · split at hx
    · cases hx; rw [h] at hxl; cases hxl
    · cases hx
  · exact ⟨by assumption, x, hx, hxl⟩
theorem Inv.revive {i : Nat} (k : Nat) (hi : Inv Gl B A w β st) (_hst : st[i]? = some .dead) : Inv Gl B A w β (st.set i (.arr k [] 0)) := by
  have hl : ∀ j, liveAt (st.set i (.arr k [] 0)) j → liveAt st j := fun j h => (PObj.dead_live (o := .arr k [] 0) rfl h).2
  refine { hi with len := by rw [List.length_set]; exact hi.len, inj := fun a b c h1 h2 h3 h4 => hi.inj a b c h1 h2 (hl _ h3) (hl _ h4), obj := fun a b o h1 h2 => ?_, notA := fun a b h1 h2 => hi.notA a b h1 (hl _ h2), own := fun a b h1 h2 => hi.own a b h1 (hl _ h2) }
  rw [List.getElem?_set] at h2
  split at h2
  · split at h2
    · cases h2
      exact ⟨Nat.le_refl _, by decide, by simp, fun h => (h rfl).elim⟩
    · cases h2
  · exact hi.obj a b o h1 h2
theorem Inv.fill {i cap : Nat} {xs : List PV} (hi : Inv Gl B A w β st) (hst : st[i]? = some (.arr 1 xs cap)) (hpos : cap ≠ 0) : Inv Gl B A w β (st.set i (.arr 1 (xs ++ List.replicate (cap - xs.length) .any) cap)) := by
  have hil : i < st.length := (List.getElem?_eq_some_iff.1 hst).1
  have hlen := hi.len
  have hb : β[i]? = some (β[i]'(by omega)) := List.getElem?_eq_getElem (by omega)
  have hlive : PObj.live (.arr 1 xs cap) = true := by cases cap with | zero => exact (hpos rfl).elim | succ c => rfl
  obtain ⟨q1, q2, q3, q4⟩ := hi.obj i _ _ hb hst
  obtain ⟨vs, T, fr, g1, g2, g3, g4⟩ := q4 hpos
  refine (hi.write (x := .arr 1 (xs ++ List.replicate (cap - xs.length) .any) cap) hb hst hlive rfl rfl rfl rfl (fun _ _ => rfl) ⟨by simp; omega, q2, fun x hx => ?_, fun _ => ⟨vs, T, fr, g1, g2, g3, fun n x j c hx hc => ?_⟩⟩).1
  · rcases List.mem_append.1 hx with hx | hx
    · exact q3 x hx
    · rw [(List.mem_replicate.1 hx).2]; rfl
  · rcases Nat.lt_or_ge n xs.length with hn | hn
    · rw [List.getElem?_append_left hn] at hx
      exact g4 n x j c hx hc
    · rw [List.getElem?_append_right hn] at hx
      have hx1 := (List.mem_replicate.1 (List.mem_of_getElem? hx)).2
      have hx2 := (List.getElem?_eq_some_iff.1 hx).1
      rw [List.length_replicate] at hx2
      subst hx1
      have hj : j = 0 := by
        have := (List.getElem?_eq_some_iff.1 hc).1
        simp [PV.cells] at this
        exact this
      subst hj
      have hca : c = .any := by simpa [PV.cells] using hc.symm
      subst hca
      refine ⟨vs[n * 1 + 0]'(by omega), List.getElem?_eq_getElem _, .any ..⟩
theorem pl_inv {st' : List PObj} (hv : ∀ A w β, Inv Gl B A w β st → Inv Gl B A w β st') (h : PWL P Gl B ops rest env st' Q) : PWL P Gl B ops rest env st Q := fun A w β tmps hi he => h A w β tmps (hv A w β hi) he
theorem LeBy.app {R : PV → PV → Prop} : ∀ {xs ys xs' ys' : List PV}, LeBy R xs ys → LeBy R xs' ys' → LeBy R (xs ++ xs') (ys ++ ys')
  | [], [], _, _, _, h => h
  | _ :: _, _ :: _, _, _, h, h' => ⟨h.1, h.2.app h'⟩
theorem FSt.put {F : Nat → Bool} : ∀ {i t : Nat} {xs ys : List PObj} {x y : PObj}, FSt F st i xs ys → xs[t]? = some x → F (i + t) = false → FOb F st x y → FSt F st i xs (ys.set t y)
  | i, 0, x :: xs, y :: ys, _, z, h, hx, hF, hr => by
    cases hx
    refine ⟨?_, h.2⟩
    rw [Nat.add_zero] at hF
    rw [hF]; exact hr
  | i, t + 1, x :: xs, y :: ys, _, z, h, hx, hF, hr => ⟨h.1, FSt.put (i := i + 1) (t := t) h.2 (by simpa using hx) (by rw [← hF]; congr 1; omega) hr⟩
  | _, _, [], [], _, _, _, hx, _, _ => by simp at hx
  | _, _, [], _ :: _, _, _, h, _, _, _ => h.elim
  | _, _, _ :: _, [], _, _, h, _, _, _ => h.elim
theorem frzB_core (i b : Nat) {k m cap k' : Nat} {xs cs1 cs2 : List PV} {tmps : List Value} (hb : st[b]? = some (.box (cs1 ++ .msl k i 0 m cap :: cs2))) (hst : st[i]? = some (.arr k' xs cap)) (hm : m = xs.length) (hib : b ≠ i) (hi : Inv Gl B A w β st) (he : EnvRel A w β env tmps) :
    ∃ A', Inv Gl B A' w β ((killF (fun j => j == i) 0 st).set b (.box (cs1 ++ .sl xs :: cs2))) ∧ EnvRel A' w β (env.map (wipe fun j => !(j == i))) tmps := by
  obtain ⟨A', hE, hden, hi'⟩ := hi.freeze fun j => j == i
  have hw := FLe.wipeF (fun j => j == i) st env
  refine ⟨A', hi' _ (FSt.put (killF_spec _ st st 0) hb (by simpa using hib) (.inr (.inr ⟨_, _, rfl, rfl, LeBy.app (LeBy.refl (fun _ => .inr (.inl rfl)) cs1) ⟨.inr (.inr (.inr (.inl ⟨k, i, m, cap, k', xs, rfl, by simp, hst, hm, rfl⟩))), LeBy.refl (fun _ => .inr (.inl rfl)) cs2⟩⟩))), hw.len.symm.trans he.1, fun n p v hp hv => ?_⟩
  obtain ⟨q, hq, hr⟩ := hw.get n p hp
  exact hden 3 q p v hr (he.2 n q v hq hv)
theorem pl_frzB (i b : Nat) {k m cap k' : Nat} {xs cs1 cs2 : List PV} (hb : st[b]? = some (.box (cs1 ++ .msl k i 0 m cap :: cs2))) (hst : st[i]? = some (.arr k' xs cap)) (hm : m = xs.length) (hib : b ≠ i)
    (h : PWL P Gl B ops rest (env.map (wipe fun j => !(j == i))) ((killF (fun j => j == i) 0 st).set b (.box (cs1 ++ .sl xs :: cs2))) Q) : PWL P Gl B ops rest env st Q := fun _ w β tmps hi he => by
  obtain ⟨A', h1, h2⟩ := frzB_core i b hb hst hm hib hi he
  exact h A' w β tmps h1 h2
theorem pw_frzB (i b : Nat) {c : Code} {k m cap k' : Nat} {xs cs1 cs2 : List PV} (hb : st[b]? = some (.box (cs1 ++ .msl k i 0 m cap :: cs2))) (hst : st[i]? = some (.arr k' xs cap)) (hm : m = xs.length) (hib : b ≠ i)
    (h : PW P Gl B c (env.map (wipe fun j => !(j == i))) ((killF (fun j => j == i) 0 st).set b (.box (cs1 ++ .sl xs :: cs2))) Q) : PW P Gl B c env st Q := fun _ w β tmps hi he => by
  obtain ⟨A', h1, h2⟩ := frzB_core i b hb hst hm hib hi he
  exact h A' w β tmps h1 h2
theorem pw_frz2 (i t t' : Nat) {c : Code} {k m cap k' : Nat} {xs : List PV} (ht : env[t]? = some (.msl k i 0 m cap)) (ht' : env[t']? = some (.msl k i 0 m cap)) (hst : st[i]? = some (.arr k' xs cap)) (hm : m = xs.length)
    (h : PW P Gl B c (((env.map (wipe fun j => !(j == i))).set t (.sl xs)).set t' (.sl xs)) (killF (fun j => j == i) 0 st) Q) : PW P Gl B c env st Q :=
  pw_freeze (fun j => j == i) (killF_spec _ st st 0) (LeBy.put (LeBy.put (FLe.wipeF _ st env) ht (.inr (.inr (.inr (.inl ⟨k, i, m, cap, k', xs, rfl, by simp, hst, hm, rfl⟩))))) ht' (.inr (.inr (.inr (.inl ⟨k, i, m, cap, k', xs, rfl, by simp, hst, hm, rfl⟩))))) h
theorem pl_boxArr (i : Nat) {cs : List PV} (hst : st[i]? = some (.box cs)) (hcell : ∀ c ∈ cs, c.cells = [c]) (hg : cs.all (PV.refs (fun _ => false) 5) = true) (hm : cs.length ≤ maxLen) (h : PWL P Gl B ops rest env (st.set i (.arr 1 cs cs.length)) Q) : PWL P Gl B ops rest env st Q :=
  fun A w β tmps hi he => h A w β tmps (hi.boxArr hst hcell hg hm) he
theorem pl_shrink (i n : Nat) {k cap : Nat} {xs : List PV} (hst : st[i]? = some (.arr k xs cap)) (h : PWL P Gl B ops rest env (st.set i (.arr k (xs.take n) cap)) Q) : PWL P Gl B ops rest env st Q :=
  fun A w β tmps hi he => h A w β tmps (hi.shrink hst n) he
theorem pl_st {st' : List PObj} (h : st = st') (hr : PWL P Gl B ops rest env st' Q) : PWL P Gl B ops rest env st Q := by rw [h]; exact hr
theorem pl_normV {env' : List PV} (h : (forceV env fun e => (e, ())) = (env', ())) (hr : PWL P Gl B ops rest env' st Q) : PWL P Gl B ops rest env st Q := by
  rw [forceV_eq] at h
  cases h
  exact hr
theorem pw_normV {c : Code} {env' : List PV} (h : (forceV env fun e => (e, ())) = (env', ())) (hr : PW P Gl B c env' st Q) : PW P Gl B c env st Q := by
  rw [forceV_eq] at h
  cases h
  exact hr
theorem pl_cap (i : Nat) {k cap : Nat} {xs : List PV} (hst : st[i]? = some (.arr k xs cap)) (h : xs.length ≤ cap → cap ≤ maxLen → PWL P Gl B ops rest env st Q) : PWL P Gl B ops rest env st Q := fun A w β tmps hi he => by
  have hil : i < st.length := (List.getElem?_eq_some_iff.1 hst).1
  have hlen := hi.len
  obtain ⟨q1, q2, _⟩ := hi.obj i (β[i]'(by omega)) _ (List.getElem?_eq_getElem (by omega)) hst
  exact h q1 q2 A w β tmps hi he
theorem pl_freezeF (F : Nat → Bool) {env' : List PV} {st' : List PObj} (hs : FSt F st 0 st st') (he' : LeBy (FLe F st 3) env env') (h : PWL P Gl B ops rest env' st' Q) : PWL P Gl B ops rest env st Q := fun A w β tmps hi he => by
  obtain ⟨A', hE, hden, hi'⟩ := hi.freeze F
  refine h A' w β tmps (hi' st' hs) ⟨he'.len.symm.trans he.1, fun i p v hp hv => ?_⟩
  obtain ⟨q, hq, hr⟩ := he'.get i p hp
  exact hden 3 q p v hr (he.2 i q v hq hv)
theorem pl_frz1 (i t : Nat) {k m cap k' : Nat} {xs : List PV} (ht : env[t]? = some (.msl k i 0 m cap)) (hst : st[i]? = some (.arr k' xs cap)) (hm : m = xs.length)
    (h : PWL P Gl B ops rest ((env.map (wipe fun j => !(j == i))).set t (.sl xs)) (killF (fun j => j == i) 0 st) Q) : PWL P Gl B ops rest env st Q :=
  pl_freezeF (fun j => j == i) (killF_spec _ st st 0) (LeBy.put (FLe.wipeF _ st env) ht (.inr (.inr (.inr (.inl ⟨k, i, m, cap, k', xs, rfl, by simp, hst, hm, rfl⟩))))) h
theorem cells_rep (n : Nat) : ∀ c ∈ List.replicate n PV.any, c.cells = [c] := fun c hc => by rw [(List.mem_replicate.1 hc).2]; rfl
theorem refs_rep (d : Nat → Bool) (n k : Nat) : (List.replicate n PV.any).all (PV.refs d (k + 1)) = true := List.all_eq_true.2 fun c hc => by rw [(List.mem_replicate.1 hc).2]; rfl
end
end Go.Pw
namespace Go.Pw
open Go
section rules
variable {P : Program} {Gl : Glob} {B : Base} {tys : List TI} {env : List PV} {st : List PObj} {Q : Post} {ops : Array Oper} {rest : List Oper} {o : Oper}
theorem op_lookV {K : PV → List PObj → Prop} {t k e : TypeId} {z1 z2 y1 y2 : Nat} {z3 y3 : Option (List PV)} {m x : Operand} {i j : Nat} {s : List UInt8} {p : PV} {es : List (List UInt8 × PV)} (hT : Tys P tys) (ho : o.op = .lookup t m x false) (ht : tys[t]? = some ⟨.map k e, z1, z2, z3⟩) (htk : tys[k]? = some ⟨.str, y1, y2, y3⟩)
    (hm : pe env m = .map i) (hx : pe env x = .str s) (hst : st[i]? = some (.map es)) (hj : es[j]? = some (s, p)) (hno : (es.take j).all (fun e => !(e.1 == s)) = true) (hK : K p st) : OpP P Gl B o env st K := by
  refine op_val (x := p) (fun A w β tmps hi he => ?_) hK
  obtain ⟨ti, d, hi1, hu, htk1, _⟩ := tyOf_spec (hT _ _ ht)
  have := tkOf_map htk1
  subst this
  obtain ⟨ti2, d2, hi2, hu2, htk2, _⟩ := tyOf_spec (hT _ _ htk)
  have := tkOf_str htk2
  subst this
  have hdm := he.eval [] m
  rw [hm] at hdm
  obtain ⟨b, hb, hvm⟩ : ∃ b, β[i]? = some b ∧ (⟨tmps.toArray, []⟩ : Act).eval m = .map (some b) := by
    generalize (⟨tmps.toArray, []⟩ : Act).eval m = u at hdm
    cases hdm with | map _ _ b hb => exact ⟨b, hb, rfl⟩
  obtain ⟨mes, cl, h1, h2, h3⟩ := hi.obj i b _ hb hst
  obtain ⟨e', g1, g2, g3⟩ := h3 j s p hj
  have hf := findNow_some ⟨s.toArray⟩ mes 0 j e' g1 g2 (fun q e hq he => by
    have hlt : q < es.length := by rw [← h2]; exact (List.getElem?_eq_some_iff.1 he).1
    obtain ⟨e2, q1, q2, _⟩ := h3 q es[q].1 es[q].2 (List.getElem?_eq_getElem hlt)
    rw [he] at q1
    cases q1
    refine ⟨_, q2, bytes_ne fun hs => ?_⟩
    have := List.all_eq_true.1 hno es[q] (List.mem_of_getElem? (by rw [List.getElem?_take, if_pos hq]; exact List.getElem?_eq_getElem hlt))
    simp [hs] at this)
  refine ⟨e'.val, ?_, g3⟩
  · simp only [execOp, ho, Instr.lookup, Sem.run_bind, run_underlying hu, Result.andThen_ok, hvm, MapKept.run_getObj_map h1, str_of he hx, run_checkKey hu2, Instr.findKey, run_underlying hu2, hf, Sem.run_pure, Bool.false_eq_true, if_false]
theorem op_lookV0 {K : PV → List PObj → Prop} {t k e : TypeId} {z1 z2 y1 y2 : Nat} {zv : Value} {z3 y3 : Option (List PV)} {m x : Operand} {i : Nat} {s : List UInt8} {es : List (List UInt8 × PV)} (hT : Tys P tys) (ho : o.op = .lookup t m x false) (ht : tys[t]? = some ⟨.map k e, z1, z2, z3⟩) (htk : tys[k]? = some ⟨.str, y1, y2, y3⟩) (hzi : (P.info? e).bind (·.zero) = some zv)
    (hm : pe env m = .map i) (hx : pe env x = .str s) (hst : st[i]? = some (.map es)) (hno : es.all (fun e => !(e.1 == s)) = true) (hK : K (cv zv) st) : OpP P Gl B o env st K := by
  refine op_val (x := cv zv) (fun A w β tmps hi he => ?_) hK
  obtain ⟨ti, d, hi1, hu, htk1, _⟩ := tyOf_spec (hT _ _ ht)
  have := tkOf_map htk1
  subst this
  obtain ⟨ti2, d2, hi2, hu2, htk2, _⟩ := tyOf_spec (hT _ _ htk)
  have := tkOf_str htk2
  subst this
  obtain ⟨ti3, hi3, hzv⟩ := Option.bind_eq_some_iff.1 hzi
  have hdm := he.eval [] m
  rw [hm] at hdm
  obtain ⟨b, hb, hvm⟩ : ∃ b, β[i]? = some b ∧ (⟨tmps.toArray, []⟩ : Act).eval m = .map (some b) := by
    generalize (⟨tmps.toArray, []⟩ : Act).eval m = u at hdm
    cases hdm with | map _ _ b hb => exact ⟨b, hb, rfl⟩
  obtain ⟨mes, cl, h1, h2, h3⟩ := hi.obj i b _ hb hst
  have hf := findNow_none ⟨s.toArray⟩ mes 0 (fun e hem => by
    obtain ⟨j, hj⟩ := List.mem_iff_getElem?.1 hem
    have hlt : j < es.length := by rw [← h2]; exact (List.getElem?_eq_some_iff.1 hj).1
    obtain ⟨e', g1, g2, _⟩ := h3 j es[j].1 es[j].2 (List.getElem?_eq_getElem hlt)
    rw [hj] at g1
    cases g1
    refine ⟨_, g2, bytes_ne fun hs => ?_⟩
    have := List.all_eq_true.1 hno es[j] (List.getElem_mem hlt)
    simp [hs] at this)
  have hz : (zeroValue e).run P w = .ok zv w := by simp [zeroValue, run_info hi3, hzv]
  refine ⟨zv, ?_, den_cv ..⟩
  simp only [execOp, ho, Instr.lookup, Sem.run_bind, run_underlying hu, Result.andThen_ok, hvm, MapKept.run_getObj_map h1, str_of he hx, run_checkKey hu2, Instr.findKey, run_underlying hu2, hf, Sem.run_pure, Bool.false_eq_true, if_false, hz]
end rules
end Go.Pw
