/-
 Package-level arrays of plain values that never change; elements of arrays that are values.
 Strings of bytes: the conversion of a slice of bytes to a string.
 Byte slices: a string as bytes and back, slices of arrays of the function's own, appending one array to another.
 Appending a string to bytes of the function's own; arrays of a fixed length as rows of elements.
-/
import Derived.Test.YtkaobkjcjodffaaGreatDoorSPwFork
import Derived.Test.YtkaobkjcjodffaaGreatDoorSPwMap
import Derived.Laws.BytesString
import Derived.Test.YtkaobkjcjodffaaGreatDoorSPwCopy
import Derived.Lib.ConvBytes
namespace Go.Pw
open Go Go.RowKit
section
variable {P : Program} {Gl : Glob} {B : Base} {tys : List TI} {env : List PV} {st : List PObj} {o : Oper} {A : Nat → Prop} {w : World} {β : List Nat} {tmps : List Value}
structure GRow (Gl : Glob) (g : Nat) (xs : List PV) : Prop where
 lt : g < Gl.n
 lit : xs.all isLit = true
 cell : ∀ w, GlobW Gl w → ∀ (j : Nat) x, xs[j]? = some x → w.cell? ⟨g, j, none⟩ = some (litV x)
theorem GRow.fixed {g : Nat} {xs : List PV} (h : GRow Gl g xs) (hi : Inv Gl B A w β st) : A g := hi.old g (hi.glob g h.lt).2.2.2
theorem isLit_cells {p : PV} (h : isLit p = true) : p.cells = [p] := by cases p <;> first | rfl | cases h
theorem v_gslice {t : TypeId} {x : Operand} {g : Nat} {xs : List PV} {n e s z1 z2 : Nat} {z3 : Option (List PV)} (hT : Tys P tys) (ho : o.op = .slice t x none none none) (ht : tys[t]? = some ⟨.arr n e s, z1, z2, z3⟩) (hs : s = 1)
  (hx : pe env x = .gptr g 0) (hg : GRow Gl g xs) (hn : n = xs.length) (h0 : n ≠ 0) (hm : n ≤ maxLen) : OpV P Gl B o env (.sl xs) := fun st A w β tmps hi he => by
 obtain ⟨ti, d, hi1, hu, htk, _⟩ := tyOf_spec (hT _ _ ht)
 obtain ⟨rfl, hse⟩ := tkOf_arr htk
 subst hs
 have hd := he.eval [] x
 rw [hx] at hd
 have hv := hd.gptr_inv
 have hbd := run_bounds (P := P) (w := w) he (lo := none) (hi := none) (n := n) (cap := n) false (l := 0) (h := (n : Int)) rfl rfl (Int.le_refl _) (by omega) (by omega)
 have hgw := hi.globW
 refine ⟨.slice (some ⟨g, 0, none⟩) n n, ?_, ?_⟩
 ·simp only [execOp, ho, Instr.sliceAt, hv, Sem.run_bind, run_underlying hu, Result.andThen_ok, Instr.sureAddr, Sem.run_pure]
  have hbd' : (Instr.sliceBounds false n n none none none).run P w = .ok (0, n, n) w := by simpa using hbd
  simp only [Option.map_none, hbd', Result.andThen_ok, run_size hse]
  rw [if_neg h0]
  simp [Addr.add]
 ·rw [hn]
  refine .sl β 1 xs ⟨g, 0, none⟩ xs.length (fun i _ => litV (xs.getD i .any)) (fun _ => ⟨hg.fixed hi, rfl⟩) (Nat.le_refl _) (hn ▸ hm) (fun y hy => by rw [isLit_cells (List.all_eq_true.1 hg.lit y hy)]; rfl) (fun i y j c hy hc => ?_) (fun i y j c hy hc => ?_)
  all_goals
   have hyl := List.all_eq_true.1 hg.lit y (List.mem_of_getElem? hy)
   rw [isLit_cells hyl] at hc
   obtain ⟨rfl, rfl⟩ : j = 0 ∧ c = y := by cases j <;> simp at hc; exact ⟨rfl, hc.symm⟩
  ·rw [show (0 : Nat) + (i * 1 + 0) = i by omega, hg.cell w hgw i _ hy, List.getD, hy]; rfl
  ·rw [List.getD, hy]; exact den_lit _ hyl
theorem v_gload {t : TypeId} {x : Operand} {g : Nat} {xs : List PV} {n e s z2 : Nat} {z3 : Option (List PV)} (hT : Tys P tys) (ho : o.op = .load t x) (ht : tys[t]? = some ⟨.arr n e s, n, z2, z3⟩)
  (hx : pe env x = .gptr g 0) (hg : GRow Gl g xs) (hn : n = xs.length) : OpV P Gl B o env (.agg xs) := fun st A w β tmps hi he => by
 obtain ⟨ti, d, hi1, hu, htk, hts, _⟩ := tyOf_spec (hT _ _ ht)
 have hag : aggD d = true := by rw [← tkOf_agg htk (fun y hy => by subst hy; exact fun h => by cases h)]; rfl
 have hd := he.eval [] x
 rw [hx] at hd
 have hv := hd.gptr_inv
 have hgw := hi.globW
 have hsz : szOf P t = some n := by simp only [szOf, hi1, Option.map_some]; exact congrArg some hts.symm
 obtain ⟨v, hr, hden⟩ := run_loadVar_cells (P := P) (A := A) (w := w) (β := β) xs g 0 (fun j => litV (xs.getD j .any)) (fun j c hc => by rw [Nat.zero_add, hg.cell w hgw j c hc, List.getD, hc]; rfl)
  (fun j c hc => by rw [List.getD, hc]; exact den_lit _ (List.all_eq_true.1 hg.lit c (List.mem_of_getElem? hc))) hu hsz (off := 0) (x := .agg xs) (by rw [hag]; simp [part?, hn])
 refine ⟨v, ?_, hden⟩
 simp only [execOp, ho, hv, Instr.loadAt, Instr.sureAddr, Sem.run_bind, Sem.run_pure, Result.andThen_ok]
 rw [hr]; rfl
end
end Go.Pw
namespace Go.Pw
open Go
def eByte (b : UInt8) : PV := .int .u8 (b.toNat : Int)
theorem push_bytes : ∀ (bs acc : List UInt8), (bs.map fun b => (b.toNat : Int)).foldl (fun r n => r.push (UInt8.ofNat n.toNat)) (⟨acc.toArray⟩ : ByteArray) = ⟨(acc ++ bs).toArray⟩
 | [], acc => by simp
 | b :: bs, acc => by
  rw [List.map_cons, List.foldl_cons]
  have : (⟨acc.toArray⟩ : ByteArray).push (UInt8.ofNat ((b.toNat : Int)).toNat) = ⟨(acc ++ [b]).toArray⟩ := by
   simp [ByteArray.push]
  rw [this, push_bytes bs (acc ++ [b])]
  simp
theorem run_bstr {P : Program} (w : World) {s t e : TypeId} (a : Addr) (cap : Nat) (bs : List UInt8) (hs : P.underlying s = some (.slice e)) (he : P.underlying e = some (.int .u8)) (ht : P.underlying t = some .string)
  (hc : ∀ (j : Nat) b, bs[j]? = some b → w.cell? (a.add j) = some (.int .u8 (b.toNat : Int))) : (Go.convert s t (.slice (some a) bs.length cap)).run P w = .ok (.string ⟨bs.toArray⟩) w := by
 rw [run_convert_bytes_string w s t e (some a) bs.length cap hs he ht]
 have h := run_loadCells_list (P := P) (w := w) a ((bs.map fun b => (b.toNat : Int)).map (Value.int .u8)) (fun j v hv => by
  rw [List.getElem?_map, List.getElem?_map] at hv
  cases hb : bs[j]? with
  | none => rw [hb] at hv; cases hv
  | some b => rw [hb] at hv; cases hv; exact hc j b hb)
 rw [List.length_map, List.length_map] at h
 rw [run_bytesToString w a bs.length cap (bs.map fun b => (b.toNat : Int)) h]
 have := push_bytes bs []
 rw [List.nil_append] at this
 rw [← this]; rfl
section
variable {P : Program} {Gl : Glob} {B : Base} {tys : List TI} {env : List PV} {st : List PObj} {o : Oper}
theorem tkOf_slI {d : TypeDesc} {e s b : Nat} (h : TK.sl e s b = tkOf P d) : d = .slice e := by
 cases d <;> simp only [tkOf] at h <;> first | (cases h; done) | skip
 all_goals (split at h <;> cases h)
 rfl
theorem v_bstr {s t : TypeId} {x : Operand} {bs : List UInt8} (hT : Tys P tys) (ho : o.op = .convert s t x) {e es eb z1 z2 z4 z5 z7 z8 : Nat} {z3 z6 z9 : Option (List PV)} (hs : tys[s]? = some ⟨.sl e es eb, z1, z2, z3⟩) (he : tys[e]? = some ⟨.int .u8, z4, z5, z6⟩) (ht : tys[t]? = some ⟨.str, z7, z8, z9⟩)
  (hx : pe env x = .sl (bs.map eByte)) : OpV P Gl B o env (.str bs) := fun _ A w β tmps _ hE => by
 obtain ⟨_, d1, _, hu1, htk1, _⟩ := tyOf_spec (hT _ _ hs)
 obtain ⟨_, d2, _, hu2, htk2, _⟩ := tyOf_spec (hT _ _ he)
 obtain ⟨_, d3, _, hu3, htk3, _⟩ := tyOf_spec (hT _ _ ht)
 have q1 := tkOf_slI htk1
 have q2 := tkOf_int htk2
 have q3 := tkOf_str htk3
 subst q1 q2 q3
 refine ⟨.string ⟨bs.toArray⟩, ?_, .str ..⟩
 have hd := hE.eval [] x
 rw [hx] at hd
 generalize hv : (⟨tmps.toArray, []⟩ : Act).eval x = v at hd
 simp only [execOp, ho, hv]
 generalize hxs : bs.map eByte = xs at hd
 cases hd with
 | slnil =>
  have : bs = [] := by cases bs with | nil => rfl | cons b bs => cases hxs
  subst this
  simp [Go.convert, run_underlying hu1, run_underlying hu2, run_underlying hu3, Conv.bytesToString, Sem.run_bind, Sem.run_pure]
  rfl
 | sl _ k _ a cap f g1 g2 g3 g4 g5 g6 =>
  subst hxs
  have hr := run_bstr (P := P) w a cap bs hu1 hu2 hu3 (fun j b hb => by
   have hj : (bs.map eByte)[j]? = some (eByte b) := by rw [List.getElem?_map, hb]; rfl
   have hk : k = 1 := by rw [← g4 _ (List.mem_of_getElem? hj)]; rfl
   have hne : bs.map eByte ≠ [] := by intro h; rw [h] at hj; cases hj
   have h5 := g5 j _ 0 _ hj rfl
   have h6 := (g6 j _ 0 _ hj rfl).int_inv
   rw [h6, hk, Nat.mul_one, Nat.add_zero] at h5
   obtain ⟨ab, ao, asp⟩ := a
   have := (g1 hne).2
   simp only at this
   subst this
   rw [addr_add]
   exact h5)
  rw [List.length_map, Sem.run_bind, hr]
  simp
end
end Go.Pw
namespace Go.Pw
open Go
section
variable {P : Program} {Gl : Glob} {B : Base} {env : List PV} {st : List PObj} {Q : Post}
theorem LeBy.put {R : PV → PV → Prop} : ∀ {xs ys : List PV} {t : Nat} {x y : PV}, LeBy R xs ys → xs[t]? = some x → R x y → LeBy R xs (ys.set t y)
 | [], [], _, _, _, _, h, _ => by simp at h
 | x :: xs, y :: ys, 0, _, _, h, hx, hr => by cases hx; exact ⟨hr, h.2⟩
 | x :: xs, y :: ys, t + 1, _, _, h, hx, hr => ⟨h.1, LeBy.put h.2 (by simpa using hx) hr⟩
 | [], _ :: _, _, _, _, h, _, _ => h.elim
 | _ :: _, [], _, _, _, h, _, _ => h.elim
theorem pw_frz1 (i t : Nat) {c : Code} {k m cap k' : Nat} {xs : List PV} (ht : env[t]? = some (.msl k i 0 m cap)) (hst : st[i]? = some (.arr k' xs cap)) (hm : m = xs.length)
  (h : PW P Gl B c ((env.map (wipe fun j => !(j == i))).set t (.sl xs)) (killF (fun j => j == i) 0 st) Q) : PW P Gl B c env st Q :=
 pw_freeze (fun j => j == i) (killF_spec _ st st 0) (LeBy.put (FLe.wipeF _ st env) ht (.inr (.inr (.inr (.inl ⟨k, i, m, cap, k', xs, rfl, by simp, hst, hm, rfl⟩))))) h
end
end Go.Pw
namespace Go.Pw
open Go
section rules
variable {P : Program} {Gl : Glob} {B : Base} {tys : List TI} {env : List PV} {st : List PObj} {ops : Array Oper} {rest : List Oper} {o : Oper} {Q : Post}
 {A : Nat → Prop} {w : World} {β : List Nat} {tmps : List Value}
theorem append_core {K : PV → List PObj → Prop} {T T2 s b i n cap : Nat} {x y : Operand} {xs ys : List PV} {Q' : Exit → Act → World → Prop} (hT : Tys P tys) (ho : o.op = .call ⟨.builtin .append, #[x, y], #[T, T2]⟩) (hk : appOk tys T T2 s b = true) (hst : st[i]? = some (.arr s xs cap)) (hn : n = xs.length)
  (hpos : 0 < ys.length ∨ cap ≠ 0) (hs' : ∀ y ∈ ys, y.cells.length = s) (hon : ys.all (fun y => y.cells.all PV.one) = true) (hbd : (xs.length + ys.length) * b ≤ 140737488355328)
  (hi : Inv Gl B A w β st) (hdx : Den A w β (.msl s i 0 n cap) ((⟨tmps.toArray, []⟩ : Act).eval x)) {cs : List Value} {a : Option Addr} {cap2 : Nat} (hv : (⟨tmps.toArray, []⟩ : Act).eval y = .slice a ys.length cap2) (hf : ∀ w2 : World, w2.heap = w.heap → (Builtin.firstCells s ys.length ((⟨tmps.toArray, []⟩ : Act).eval y)).run P w2 = .ok cs.toArray w2) (hrow : RowDen A w s ys cs)
  (hK : ∀ cap', xs.length + ys.length ≤ cap' → cap' ≠ 0 → K (.msl s st.length 0 (xs.length + ys.length) cap') (st.set i .dead ++ [.arr s (xs ++ ys) cap'])) : o.wp P ⟨tmps.toArray, []⟩ w (OpOut Gl B o.dst tmps A w β K) Q' := by
 obtain ⟨e, tie, zv, ⟨hu, ⟨e2, hu2⟩, hie, hse, hbe, hzv, hzs⟩, hb0⟩ := appOk_spec hT hk
 subst hn
 have hlen := hi.len
 have hil : i < st.length := (List.getElem?_eq_some_iff.1 hst).1
 have hbb : β[i]? = some (β[i]'(by omega)) := List.getElem?_eq_getElem (by omega)
 generalize (β[i]'(by omega)) = bb at hbb
 have hobj := hi.obj i bb _ hbb hst
 have hlenv : (Builtin.lenOf ((⟨tmps.toArray, []⟩ : Act).eval y)).run P w = .ok ys.length w := by rw [hv]; rfl
 have hml : xs.length + ys.length ≤ maxLen := by
  have : (xs.length + ys.length) * 1 ≤ (xs.length + ys.length) * b := Nat.mul_le_mul_left _ hb0
  unfold maxLen; omega
 have hxc : xs.length ≤ cap := hobj.1
 unfold Oper.wp
 by_cases hfit : xs.length + ys.length ≤ cap
 ·have hne : cap ≠ 0 := by omega
  obtain ⟨b', hb', hvx⟩ := hdx.msl_inv hne
  rw [hbb] at hb'
  cases hb'
  rw [Nat.zero_mul] at hvx
  have hlive : PObj.live (.arr s xs cap) = true := by cases cap with | zero => exact (hne rfl).elim | succ c => rfl
  have hlive2 : PObj.live (.arr s (xs ++ ys) cap) = true := by cases cap with | zero => exact (hne rfl).elim | succ c => rfl
  obtain ⟨h4, h5, h6, h0⟩ := id hobj
  obtain ⟨vs, T', fr, h1, h2, h3, h7⟩ := h0 hne
  have hcsl : cs.length = ys.length * s := hrow.1
  have hone : ∀ u ∈ cs, u.oneCell' = true := hrow.cells hon
  have hle : xs.length * s + ys.length * s ≤ cap * s := by rw [← Nat.add_mul]; exact Nat.mul_le_mul_right _ hfit
  obtain ⟨w', r1, r2, r3, r4, r5, r6, r7⟩ := run_storeCells (P := P) bb T' fr cs 0 (xs.length * s) vs w h1 (by omega) hone (by rw [h2]; exact h3)
  have hE : Ext A w A w' := ⟨fun _ h => h, fun k hkk => r6 k (fun e => hi.notA i bb hbb ⟨_, hst, hlive⟩ (e ▸ hkk))⟩
  have hx' : ObjRel A β w' bb (.arr s (xs ++ ys) cap) := by
   refine ⟨by simpa using hfit, h5, fun z hz => by rcases List.mem_append.1 hz with hz | hz; exact h6 z hz; exact hs' z hz, fun _ => ⟨_, T', fr, r7, by simp; omega, h3, fun ii z j c hz hc => ?_⟩⟩
   have hjs : j < s := by
    have : z.cells.length = s := by rcases List.mem_append.1 (List.mem_of_getElem? hz) with hz | hz; exact h6 z hz; exact hs' z hz
    rw [← this]; exact (List.getElem?_eq_some_iff.1 hc).1
   rw [Nat.add_zero]
   by_cases hii : ii < xs.length
   ·rw [List.getElem?_append_left hii] at hz
    obtain ⟨v, hv, hd⟩ := h7 ii z j c hz hc
    have : (ii + 1) * s ≤ xs.length * s := Nat.mul_le_mul_right _ hii
    rw [Nat.add_mul] at this
    refine ⟨v, ?_, hd.mono hE (.refl _)⟩
    rw [List.append_assoc, List.getElem?_append_left (by simp; omega), List.getElem?_take, if_pos (by omega)]
    exact hv
   ·rw [List.getElem?_append_right (by omega)] at hz
    obtain ⟨v, hv, hd⟩ := hrow.2.2 _ z j c hz hc
    have hik : ii * s = xs.length * s + (ii - xs.length) * s := by rw [← Nat.add_mul]; congr 1; omega
    have hlt := (List.getElem?_eq_some_iff.1 hv).1
    refine ⟨v, ?_, hd.mono hE (.refl _)⟩
    rw [List.getElem?_append_left (by simp; omega), List.getElem?_append_right (by simp; omega)]
    rw [← hv]
    congr 1
    simp; omega
  obtain ⟨hi', hE'⟩ := hi.write hbb hst hlive r2 r3 r4 r5 r6 hx'
  have hmv := hi'.move (i := i) (b := bb) (x := .arr s (xs ++ ys) cap) (y := .arr s (xs ++ ys) cap) hbb (by rw [List.getElem?_set_self hil]) hlive2 (hx'.mono (.refl _ _) (Pre.snoc _ _) rfl)
  rw [List.set_set] at hmv
  have hrun := run_fit (P := P) (w := w) hu hu2 (by simp [szOf, hie, hse]) (a := ⟨bb, 0, none⟩) (n := xs.length) (cap := cap) hlenv (hf w rfl) hfit o.type (w' := w') (by rw [addr_add, Nat.zero_add]; exact r1)
  rw [run_callb (o := o) ho rfl, hvx, hrun]
  refine ⟨_, _, _, A, β ++ [bb], rfl, hK cap hfit hne, ?_, hmv, hE', Pre.snoc _ _⟩
  have : Den A w' (β ++ [bb]) (.msl s st.length 0 (xs.length + ys.length) cap) (.slice (some ⟨bb, 0 * s, none⟩) (xs.length + ys.length) cap) := .msl _ _ _ _ _ _ _ (by rw [← hlen]; simp)
  rwa [Nat.zero_mul] at this
 ·have hold : ∃ (base : Option Addr) (old : List Value), (⟨tmps.toArray, []⟩ : Act).eval x = .slice base xs.length cap ∧ (∀ w2 : World, w2.heap = w.heap → (Builtin.firstCells s xs.length (.slice base xs.length cap)).run P w2 = .ok old.toArray w2) ∧ RowDen A w s xs old := by
   by_cases hne : cap = 0
   ·subst hne
    have : xs = [] := List.eq_nil_of_length_eq_zero (by omega)
    subst this
    obtain ⟨a, ha⟩ := hdx.msl_any
    refine ⟨a, [], ha, fun w2 _ => ?_, RowDen.nil s⟩
    cases a <;> simp [Builtin.firstCells, loadCells, loadCellsFrom]
   ·obtain ⟨b', hb', hvx⟩ := hdx.msl_inv hne
    rw [hbb] at hb'
    cases hb'
    rw [Nat.zero_mul] at hvx
    obtain ⟨old, h1, h2⟩ := run_firstm (P := P) hobj hne cap
    exact ⟨_, old, hvx, h1, h2⟩
  obtain ⟨base, old, hvx, hold, hrow0⟩ := hold
  have hg := run_grow (P := P) (w := w) hu hu2 hie hse hbe hzv hb0 (base := base) (n := xs.length) (cap := cap) (v := (⟨tmps.toArray, []⟩ : Act).eval y) (m := ys.length) (old := old) (new := cs) hlenv hold hf (by omega) hbd o.type
  obtain ⟨hc1, hc2⟩ := cap_cut (xs.length + ys.length) cap e (w.tape w.drawn (Question.appendCap (xs.length + ys.length) cap e)) hml
  generalize (Question.appendCap (xs.length + ys.length) cap e).cut (w.tape w.drawn (Question.appendCap (xs.length + ys.length) cap e)) = cap' at *
  rw [run_callb (o := o) ho rfl, hvx, hg]
  have hE : Ext A w A { w with drawn := w.drawn + 1 } := ⟨fun _ h => h, fun _ _ => rfl⟩
  have hi1 := (hi.weaken (StLe.kill st i)).drew
  have hE2 := hi1.ext_alloc (.cells (old ++ (cs ++ (Builtin.zeroCells zv.cells (cap' - (xs.length + ys.length))).toList)).toArray e)
  refine ⟨_, _, _, A, β ++ [w.heap.size], rfl, hK cap' hc1 (by omega), ?_, hi1.snoc _ _ (arr_of_row (T := e) (cs := old ++ cs) (zs := (Builtin.zeroCells zv.cells (cap' - (xs.length + ys.length))).toList) ?_ (((hrow0.append hrow).mono hE).mono hE2) ?_ (by simpa using hc1) hc2), hE.trans hE2, Pre.snoc _ _⟩
  ·have : Den A (({ w with drawn := w.drawn + 1 } : World).alloc (.cells (old ++ (cs ++ (Builtin.zeroCells zv.cells (cap' - (xs.length + ys.length))).toList)).toArray e)) (β ++ [w.heap.size]) (.msl s st.length 0 (xs.length + ys.length) cap') (.slice (some ⟨w.heap.size, 0 * s, none⟩) (xs.length + ys.length) cap') := .msl _ _ _ _ _ _ _ (by rw [← hlen]; simp)
   rwa [Nat.zero_mul] at this
  ·show (w.heap.push _)[w.heap.size]? = _
   simp
  ·rw [List.length_append, List.length_append, zeroCells_len, hrow0.1, hrow.1, hzs, ← Nat.add_mul, ← Nat.add_mul]
   congr 1
   omega
theorem run_firstO {k : Nat} {zs : List PV} {cap b : Nat} (h : ObjRel A β w b (.arr k zs cap)) (hne : cap ≠ 0) (off m c : Nat) (hm : off + m ≤ zs.length) : ∃ cs : List Value, (∀ w2 : World, w2.heap = w.heap → (Builtin.firstCells k m (.slice (some ⟨b, off * k, none⟩) m c)).run P w2 = .ok cs.toArray w2) ∧ RowDen A w k ((zs.drop off).take m) cs := by
 obtain ⟨h4, h5, h6, h0⟩ := h
 obtain ⟨vs, T, fr, h1, h2, h3, h7⟩ := h0 hne
 have hle : (off + m) * k ≤ cap * k := Nat.mul_le_mul_right _ (by omega)
 rw [Nat.add_mul] at hle
 have hl : ((vs.drop (off * k)).take (m * k)).length = m * k := by simp; omega
 refine ⟨(vs.drop (off * k)).take (m * k), fun w2 hw2 => ?_, by rw [hl]; congr 1; simp; omega, fun x hx => h6 x (List.mem_of_mem_drop (List.mem_of_mem_take hx)), fun i x j c hx hc => ?_⟩
 ·have hl2 := run_loadCells_list (P := P) w2 ⟨b, off * k, none⟩ ((vs.drop (off * k)).take (m * k)) (fun j v hj => by
   rw [addr_add, cell_same (w := w) (w' := w2) (by rw [hw2]), obj_cell h1]
   rw [List.getElem?_take] at hj
   split at hj
   ·rw [List.getElem?_drop] at hj
    exact hj
   ·cases hj)
  rw [hl] at hl2
  simpa only [Builtin.firstCells] using hl2
 ·rw [List.getElem?_take] at hx
  split at hx
  ·rename_i him
   rw [List.getElem?_drop] at hx
   obtain ⟨v, hv, hd⟩ := h7 _ x j c hx hc
   have hj : j < k := by rw [← h6 x (List.mem_of_getElem? hx)]; exact (List.getElem?_eq_some_iff.1 hc).1
   have h8 : (i + 1) * k ≤ m * k := Nat.mul_le_mul_right _ him
   rw [Nat.add_mul] at h8
   refine ⟨v, ?_, hd⟩
   rw [List.getElem?_take, if_pos (by omega), List.getElem?_drop, ← hv]
   congr 1
   rw [Nat.add_mul]; omega
  ·cases hx
theorem Inv.shrink {s i cap : Nat} {xs : List PV} (hi : Inv Gl B A w β st) (hst : st[i]? = some (.arr s xs cap)) (n : Nat) : Inv Gl B A w β (st.set i (.arr s (xs.take n) cap)) := by
 by_cases hc : cap = 0
 ·subst hc
  have hil : i < st.length := (List.getElem?_eq_some_iff.1 hst).1
  have hlen := hi.len
  have hob := hi.obj i (β[i]'(by omega)) _ (List.getElem?_eq_getElem (by omega)) hst
  have : xs = [] := List.eq_nil_of_length_eq_zero (by have := hob.1; omega)
  subst this
  have e : st.set i (.arr s (([] : List PV).take n) 0) = st := by
   apply List.ext_getElem?
   intro j
   rw [List.getElem?_set]
   by_cases hij : i = j
   ·subst hij
    rw [if_pos rfl, if_pos hil, hst]
    cases n <;> rfl
   ·rw [if_neg hij]
  rw [e]; exact hi
 ·have hil : i < st.length := (List.getElem?_eq_some_iff.1 hst).1
  have hlen := hi.len
  have hb : β[i]? = some (β[i]'(by omega)) := List.getElem?_eq_getElem (by omega)
  have hlive : PObj.live (.arr s xs cap) = true := by cases cap with | zero => exact (hc rfl).elim | succ c => rfl
  obtain ⟨g1, g2, g3, g4⟩ := hi.obj i _ _ hb hst
  refine (hi.write (x := .arr s (xs.take n) cap) hb hst hlive rfl rfl rfl rfl (fun _ _ => rfl) ⟨?_, g2, fun x hx => g3 x (List.mem_of_mem_take hx), fun hne => ?_⟩).1
  ·rw [List.length_take]; omega
  ·obtain ⟨vs, T, fr, q1, q2, q3, q4⟩ := g4 hne
   refine ⟨vs, T, fr, q1, q2, q3, fun k x j c hx hcj => ?_⟩
   rw [List.getElem?_take] at hx
   split at hx
   ·exact q4 k x j c hx hcj
   ·cases hx
theorem op_appendM {K : PV → List PObj → Prop} {T T2 s b i n cap j off m capy capz : Nat} {x y : Operand} {xs zs : List PV} (hT : Tys P tys) (ho : o.op = .call ⟨.builtin .append, #[x, y], #[T, T2]⟩) (hk : appOk tys T T2 s b = true) (hx : pe env x = .msl s i 0 n cap) (hst : st[i]? = some (.arr s xs cap)) (hn : n ≤ xs.length)
  (hy : pe env y = .msl s j off m capy) (hsty : st[j]? = some (.arr s zs capz)) (hoff : off + m ≤ zs.length) (hpos : 0 < m ∨ cap ≠ 0) (hon : zs.all (fun y => y.cells.all PV.one) = true) (hbd : (n + m) * b ≤ 140737488355328)
  (hK : ∀ cap', n + m ≤ cap' → cap' ≠ 0 → K (.msl s st.length 0 (n + m) cap') (st.set i .dead ++ [.arr s (xs.take n ++ (zs.drop off).take m) cap'])) : OpP P Gl B o env st K := by
 intro A w β tmps Q' hi he
 have hdx := he.eval [] x
 have hdy := he.eval [] y
 rw [hx] at hdx
 rw [hy] at hdy
 have hlen := hi.len
 have hil : i < st.length := (List.getElem?_eq_some_iff.1 hst).1
 have hjl : j < st.length := (List.getElem?_eq_some_iff.1 hsty).1
 have htl : (xs.take n).length = n := by simp; omega
 have hyl : ((zs.drop off).take m).length = m := by simp; omega
 have hbj : β[j]? = some (β[j]'(by omega)) := List.getElem?_eq_getElem (by omega)
 have hobj := hi.obj j _ _ hbj hsty
 have hz : ∀ y ∈ (zs.drop off).take m, y.cells.length = s := fun y hy => hobj.2.2.1 y (List.mem_of_mem_drop (List.mem_of_mem_take hy))
 have hon' : ((zs.drop off).take m).all (fun y => y.cells.all PV.one) = true := List.all_eq_true.2 fun y hy => List.all_eq_true.1 hon y (List.mem_of_mem_drop (List.mem_of_mem_take hy))
 have hY : ∃ (cs : List Value) (a : Option Addr), (⟨tmps.toArray, []⟩ : Act).eval y = .slice a m capy ∧ (∀ w2 : World, w2.heap = w.heap → (Builtin.firstCells s m ((⟨tmps.toArray, []⟩ : Act).eval y)).run P w2 = .ok cs.toArray w2) ∧ RowDen A w s ((zs.drop off).take m) cs := by
  generalize (⟨tmps.toArray, []⟩ : Act).eval y = v at hdy
  cases hdy with
  | msl _ _ _ _ _ _ b' hb' =>
   rw [hbj] at hb'
   cases hb'
   by_cases hm : m = 0
   ·subst hm
    refine ⟨[], _, rfl, fun w2 _ => by simp [Builtin.firstCells, loadCells, loadCellsFrom], ?_⟩
    rw [List.take_zero]; exact RowDen.nil s
   ·have hne : capz ≠ 0 := by have := hobj.1; omega
    obtain ⟨cs, h1, h2⟩ := run_firstO (P := P) hobj hne off m capy hoff
    exact ⟨cs, _, rfl, h1, h2⟩
  | mslnil _ _ _ _ a =>
   refine ⟨[], a, rfl, fun w2 _ => by cases a <;> simp [Builtin.firstCells, loadCells, loadCellsFrom], ?_⟩
   rw [List.take_zero]; exact RowDen.nil s
 obtain ⟨cs, a, hv, hf, hrow⟩ := hY
 have hi' := hi.shrink hst n
 rw [← hyl] at hv hf
 refine append_core (K := K) (xs := xs.take n) hT ho hk (st := st.set i (.arr s (xs.take n) cap)) (by rw [List.getElem?_set_self hil]) htl.symm (by rw [hyl]; exact hpos) hz hon' (by rw [htl, hyl]; exact hbd) hi' hdx hv hf hrow fun cap' h1 h2 => ?_
 rw [htl, hyl] at h1 ⊢
 rw [List.length_set, List.set_set]
 exact hK cap' h1 h2
theorem v_bstrM {s t : TypeId} {x : Operand} {bs : List UInt8} {i n cap : Nat} {K : PV → List PObj → Prop} (hT : Tys P tys) (ho : o.op = .convert s t x) {e es eb z1 z2 z4 z5 z7 z8 : Nat} {z3 z6 z9 : Option (List PV)} (hs : tys[s]? = some ⟨.sl e es eb, z1, z2, z3⟩) (he : tys[e]? = some ⟨.int .u8, z4, z5, z6⟩) (ht : tys[t]? = some ⟨.str, z7, z8, z9⟩)
  (hx : pe env x = .msl 1 i 0 n cap) (hst : st[i]? = some (.arr 1 (bs.map eByte) cap)) (hn : n = bs.length) (hK : K (.str bs) st) : OpP P Gl B o env st K := by
 refine op_val (x := .str bs) (fun A w β tmps hi hE => ?_) hK
 obtain ⟨_, d1, _, hu1, htk1, _⟩ := tyOf_spec (hT _ _ hs)
 obtain ⟨_, d2, _, hu2, htk2, _⟩ := tyOf_spec (hT _ _ he)
 obtain ⟨_, d3, _, hu3, htk3, _⟩ := tyOf_spec (hT _ _ ht)
 have q1 := tkOf_slI htk1
 have q2 := tkOf_int htk2
 have q3 := tkOf_str htk3
 subst q1 q2 q3
 subst hn
 refine ⟨.string ⟨bs.toArray⟩, ?_, .str ..⟩
 have hd := hE.eval [] x
 rw [hx] at hd
 generalize hv : (⟨tmps.toArray, []⟩ : Act).eval x = v at hd
 simp only [execOp, ho, hv]
 by_cases hc : cap = 0
 ·subst hc
  obtain ⟨a, rfl⟩ := hd.msl_any
  have hlen := hi.len
  have hil : i < st.length := (List.getElem?_eq_some_iff.1 hst).1
  have hob := hi.obj i (β[i]'(by omega)) _ (List.getElem?_eq_getElem (by omega)) hst
  have : bs = [] := List.eq_nil_of_length_eq_zero (by have := hob.1; rw [List.length_map] at this; omega)
  subst this
  cases a with
  | none =>
   simp [Go.convert, run_underlying hu1, run_underlying hu2, run_underlying hu3, Conv.bytesToString, Sem.run_bind, Sem.run_pure]
   rfl
  | some a =>
   have hr := run_bstr (P := P) w a 0 [] hu1 hu2 hu3 (fun j b hb => by simp at hb)
   rw [Sem.run_bind, hr]
   simp
 ·obtain ⟨b, hb, rfl⟩ := hd.msl_inv hc
  obtain ⟨h4, h5, h6, h0⟩ := hi.obj i b _ hb hst
  obtain ⟨vs, T, fr, g1, g2, g3, g4⟩ := h0 hc
  have hr := run_bstr (P := P) w ⟨b, 0 * 1, none⟩ cap bs hu1 hu2 hu3 (fun j y hy => by
   obtain ⟨v, hv, hd⟩ := g4 j (eByte y) 0 _ (by rw [List.getElem?_map, hy]; rfl) rfl
   rw [addr_add, obj_cell g1, show 0 * 1 + j = j * 1 + 0 by omega, hv]
   exact congrArg some hd.int_inv)
  rw [Sem.run_bind, hr]
  simp
end rules
end Go.Pw
namespace Go.Pw
open Go
section
variable {P : Program} {Gl : Glob} {B : Base} {tys : List TI} {env : List PV} {st : List PObj} {o : Oper} {Q : Post}
theorem bytes_one (l : List UInt8) : (l.map eByte).all (fun y => y.cells.all PV.one) = true := by
 rw [List.all_map]; exact List.all_eq_true.2 fun _ _ => rfl
theorem op_appendB {K : PV → List PObj → Prop} {T T2 b i n cap j off m capy capz : Nat} {x y : Operand} {xs zs : List UInt8} (hT : Tys P tys) (ho : o.op = .call ⟨.builtin .append, #[x, y], #[T, T2]⟩) (hk : appOk tys T T2 1 b = true) (hx : pe env x = .msl 1 i 0 n cap) (hst : st[i]? = some (.arr 1 (xs.map eByte) cap)) (hn : n ≤ xs.length)
  (hy : pe env y = .msl 1 j off m capy) (hsty : st[j]? = some (.arr 1 (zs.map eByte) capz)) (hoff : off + m ≤ zs.length) (hpos : 0 < m ∨ cap ≠ 0) (hbd : (n + m) * b ≤ 140737488355328)
  (hK : ∀ cap', n + m ≤ cap' → cap' ≠ 0 → K (.msl 1 st.length 0 (n + m) cap') (st.set i .dead ++ [.arr 1 ((xs.take n ++ (zs.drop off).take m).map eByte) cap'])) : OpP P Gl B o env st K :=
 op_appendM hT ho hk hx hst (by rw [List.length_map]; exact hn) hy hsty (by rw [List.length_map]; exact hoff) hpos (bytes_one zs) hbd fun cap' h1 h2 => by
  have := hK cap' h1 h2
  rw [List.map_append, List.map_take, List.map_take, List.map_drop] at this
  exact this
theorem pw_shrink (i n : Nat) {c : Code} {k cap : Nat} {xs : List PV} (hst : st[i]? = some (.arr k xs cap)) (h : PW P Gl B c env (st.set i (.arr k (xs.take n) cap)) Q) : PW P Gl B c env st Q := fun A w β tmps hi he => h A w β tmps (hi.shrink hst n) he
end
end Go.Pw
namespace Go.Pw
open Go
section rules
variable {P : Program} {Gl : Glob} {B : Base} {tys : List TI} {env : List PV} {st : List PObj} {ops : Array Oper} {rest : List Oper} {o : Oper} {Q : Post}
 {A : Nat → Prop} {w : World} {β : List Nat} {tmps : List Value}
theorem run_growS {T T2 e : TypeId} {s b : Nat} {tie : TypeInfo} {zv : Value} (hu : P.underlying T = some (.slice e)) (hu2 : P.underlying T2 = some .string) (hie : P.info? e = some tie) (hs : tie.size = s) (hb : tie.bytes = b) (hz : tie.zero = some zv) (hby : 0 < b)
  {base : Option Addr} {n cap : Nat} {v : Value} {m : Nat} {old new : List Value} (hm : (Builtin.lenOf v).run P w = .ok m w) (hold : ∀ w2 : World, w2.heap = w.heap → (Builtin.firstCells s n (.slice base n cap)).run P w2 = .ok old.toArray w2)
  (hnew : ∀ w2 : World, w2.heap = w.heap → (Builtin.firstCells s m v).run P w2 = .ok new.toArray w2) (hg : cap < n + m) (hbd : (n + m) * b ≤ 140737488355328) (ty : TypeId) :
  (Builtin.append_ #[T, T2] ty #[.slice base n cap, v]).run P w = .ok (.slice (some ⟨w.heap.size, 0, none⟩) (n + m) ((Question.appendCap (n + m) cap e).cut (w.tape w.drawn (Question.appendCap (n + m) cap e))))
   (({ w with drawn := w.drawn + 1 } : World).alloc (.cells (old ++ (new ++ (Builtin.zeroCells zv.cells ((Question.appendCap (n + m) cap e).cut (w.tape w.drawn (Question.appendCap (n + m) cap e)) - (n + m))).toList)).toArray e)) := by
 have hzr : ∀ w', (zeroValue e).run P w' = .ok zv w' := fun w' => by simp [zeroValue, run_info hie, hz]
 have hir : ∀ w', (typeInfo e).run P w' = .ok tie w' := fun w' => run_info hie w'
 have hsr : ∀ w', (sizeOf e).run P w' = .ok s w' := fun w' => run_size (by simp [szOf, hie, hs]) w'
 have hfits : ¬ (Builtin.nextslicecap (n + m) cap * tie.bytes > 2 ^ 48) := by
  have := growslice_fits (need := n + m) (old := cap) (bytes := b) hg hbd
  rw [hb]; omega
 have hbz : ¬ tie.bytes = 0 := by omega
 have hfo : (Question.appendCap (n + m) cap e).forced = false := rfl
 simp only [Builtin.append_, List.getElem?_toArray, List.getElem?_cons_zero, List.getElem?_cons_succ, Sem.run_bind, run_underlying hu, run_underlying hu2, Result.andThen_ok, hsr, Sem.run_pure, Bool.false_eq_true, if_false, hm]
 rw [if_neg (by omega)]
 simp only [Sem.run_bind, hir, Result.andThen_ok, hbz]
 rw [if_neg (by simp)]
 simp only [Sem.run_bind, hir, Result.andThen_ok]
 rw [if_neg hfits]
 simp only [Sem.run_bind, run_choose, hfo, Bool.false_eq_true, if_false, Result.andThen_ok, hir, run_askRoom, hold { w with drawn := w.drawn + 1 } rfl, hnew { w with drawn := w.drawn + 1 } rfl, hzr, Bool.not_false, if_true]
 simp [newRow]
 congr 2
 apply Array.ext'
 simp
theorem run_fitS {T T2 e : TypeId} {s : Nat} (hu : P.underlying T = some (.slice e)) (hu2 : P.underlying T2 = some .string) (hs : szOf P e = some s)
  {a : Addr} {n cap : Nat} {v : Value} {m : Nat} {new : List Value} (hm : (Builtin.lenOf v).run P w = .ok m w) (hnew : (Builtin.firstCells s m v).run P w = .ok new.toArray w) (hg : n + m ≤ cap) (ty : TypeId) {w' : World}
  (hst : (storeCells (a.add (n * s)) new).run P w = .ok () w') : (Builtin.append_ #[T, T2] ty #[.slice (some a) n cap, v]).run P w = .ok (.slice (some a) (n + m) cap) w' := by
 simp only [Builtin.append_, List.getElem?_toArray, List.getElem?_cons_zero, List.getElem?_cons_succ, Sem.run_bind, run_underlying hu, run_underlying hu2, Result.andThen_ok, run_size hs, Sem.run_pure, Bool.false_eq_true, if_false, hm]
 rw [if_pos hg]
 simp only [Sem.run_bind, hnew, Result.andThen_ok, Bool.not_false, if_true, hst, Sem.run_pure]
theorem append_coreS {K : PV → List PObj → Prop} {T T2 s b i n cap : Nat} {x y : Operand} {xs ys : List PV} {Q' : Exit → Act → World → Prop} (hT : Tys P tys) (ho : o.op = .call ⟨.builtin .append, #[x, y], #[T, T2]⟩) (hk : appOk tys T T s b = true) (hu2 : P.underlying T2 = some .string) (hst : st[i]? = some (.arr s xs cap)) (hn : n = xs.length)
  (hpos : 0 < ys.length ∨ cap ≠ 0) (hs' : ∀ y ∈ ys, y.cells.length = s) (hon : ys.all (fun y => y.cells.all PV.one) = true) (hbd : (xs.length + ys.length) * b ≤ 140737488355328)
  (hi : Inv Gl B A w β st) (hdx : Den A w β (.msl s i 0 n cap) ((⟨tmps.toArray, []⟩ : Act).eval x)) {cs : List Value} {ua : ByteArray} (hv : (⟨tmps.toArray, []⟩ : Act).eval y = .string ua) (hua : ua.size = ys.length) (hf : ∀ w2 : World, w2.heap = w.heap → (Builtin.firstCells s ys.length ((⟨tmps.toArray, []⟩ : Act).eval y)).run P w2 = .ok cs.toArray w2) (hrow : RowDen A w s ys cs)
  (hK : ∀ cap', xs.length + ys.length ≤ cap' → cap' ≠ 0 → K (.msl s st.length 0 (xs.length + ys.length) cap') (st.set i .dead ++ [.arr s (xs ++ ys) cap'])) : o.wp P ⟨tmps.toArray, []⟩ w (OpOut Gl B o.dst tmps A w β K) Q' := by
 obtain ⟨e, tie, zv, ⟨hu, ⟨_, _⟩, hie, hse, hbe, hzv, hzs⟩, hb0⟩ := appOk_spec hT hk
 subst hn
 have hlen := hi.len
 have hil : i < st.length := (List.getElem?_eq_some_iff.1 hst).1
 have hbb : β[i]? = some (β[i]'(by omega)) := List.getElem?_eq_getElem (by omega)
 generalize (β[i]'(by omega)) = bb at hbb
 have hobj := hi.obj i bb _ hbb hst
 have hlenv : (Builtin.lenOf ((⟨tmps.toArray, []⟩ : Act).eval y)).run P w = .ok ys.length w := by rw [hv]; simp [Builtin.lenOf, hua]
 have hml : xs.length + ys.length ≤ maxLen := by
  have : (xs.length + ys.length) * 1 ≤ (xs.length + ys.length) * b := Nat.mul_le_mul_left _ hb0
  unfold maxLen; omega
 have hxc : xs.length ≤ cap := hobj.1
 unfold Oper.wp
 by_cases hfit : xs.length + ys.length ≤ cap
 ·have hne : cap ≠ 0 := by omega
  obtain ⟨b', hb', hvx⟩ := hdx.msl_inv hne
  rw [hbb] at hb'
  cases hb'
  rw [Nat.zero_mul] at hvx
  have hlive : PObj.live (.arr s xs cap) = true := by cases cap with | zero => exact (hne rfl).elim | succ c => rfl
  have hlive2 : PObj.live (.arr s (xs ++ ys) cap) = true := by cases cap with | zero => exact (hne rfl).elim | succ c => rfl
  obtain ⟨h4, h5, h6, h0⟩ := id hobj
  obtain ⟨vs, T', fr, h1, h2, h3, h7⟩ := h0 hne
  have hcsl : cs.length = ys.length * s := hrow.1
  have hone : ∀ u ∈ cs, u.oneCell' = true := hrow.cells hon
  have hle : xs.length * s + ys.length * s ≤ cap * s := by rw [← Nat.add_mul]; exact Nat.mul_le_mul_right _ hfit
  obtain ⟨w', r1, r2, r3, r4, r5, r6, r7⟩ := run_storeCells (P := P) bb T' fr cs 0 (xs.length * s) vs w h1 (by omega) hone (by rw [h2]; exact h3)
  have hE : Ext A w A w' := ⟨fun _ h => h, fun k hkk => r6 k (fun e => hi.notA i bb hbb ⟨_, hst, hlive⟩ (e ▸ hkk))⟩
  have hx' : ObjRel A β w' bb (.arr s (xs ++ ys) cap) := by
   refine ⟨by simpa using hfit, h5, fun z hz => by rcases List.mem_append.1 hz with hz | hz; exact h6 z hz; exact hs' z hz, fun _ => ⟨_, T', fr, r7, by simp; omega, h3, fun ii z j c hz hc => ?_⟩⟩
   have hjs : j < s := by
    have : z.cells.length = s := by rcases List.mem_append.1 (List.mem_of_getElem? hz) with hz | hz; exact h6 z hz; exact hs' z hz
    rw [← this]; exact (List.getElem?_eq_some_iff.1 hc).1
   rw [Nat.add_zero]
   by_cases hii : ii < xs.length
   ·rw [List.getElem?_append_left hii] at hz
    obtain ⟨v, hv, hd⟩ := h7 ii z j c hz hc
    have : (ii + 1) * s ≤ xs.length * s := Nat.mul_le_mul_right _ hii
    rw [Nat.add_mul] at this
    refine ⟨v, ?_, hd.mono hE (.refl _)⟩
    rw [List.append_assoc, List.getElem?_append_left (by simp; omega), List.getElem?_take, if_pos (by omega)]
    exact hv
   ·rw [List.getElem?_append_right (by omega)] at hz
    obtain ⟨v, hv, hd⟩ := hrow.2.2 _ z j c hz hc
    have hik : ii * s = xs.length * s + (ii - xs.length) * s := by rw [← Nat.add_mul]; congr 1; omega
    have hlt := (List.getElem?_eq_some_iff.1 hv).1
    refine ⟨v, ?_, hd.mono hE (.refl _)⟩
    rw [List.getElem?_append_left (by simp; omega), List.getElem?_append_right (by simp; omega)]
    rw [← hv]
    congr 1
    simp; omega
  obtain ⟨hi', hE'⟩ := hi.write hbb hst hlive r2 r3 r4 r5 r6 hx'
  have hmv := hi'.move (i := i) (b := bb) (x := .arr s (xs ++ ys) cap) (y := .arr s (xs ++ ys) cap) hbb (by rw [List.getElem?_set_self hil]) hlive2 (hx'.mono (.refl _ _) (Pre.snoc _ _) rfl)
  rw [List.set_set] at hmv
  have hrun := run_fitS (P := P) (w := w) hu hu2 (by simp [szOf, hie, hse]) (a := ⟨bb, 0, none⟩) (n := xs.length) (cap := cap) hlenv (hf w rfl) hfit o.type (w' := w') (by rw [addr_add, Nat.zero_add]; exact r1)
  rw [run_callb (o := o) ho rfl, hvx, hrun]
  refine ⟨_, _, _, A, β ++ [bb], rfl, hK cap hfit hne, ?_, hmv, hE', Pre.snoc _ _⟩
  have : Den A w' (β ++ [bb]) (.msl s st.length 0 (xs.length + ys.length) cap) (.slice (some ⟨bb, 0 * s, none⟩) (xs.length + ys.length) cap) := .msl _ _ _ _ _ _ _ (by rw [← hlen]; simp)
  rwa [Nat.zero_mul] at this
 ·have hold : ∃ (base : Option Addr) (old : List Value), (⟨tmps.toArray, []⟩ : Act).eval x = .slice base xs.length cap ∧ (∀ w2 : World, w2.heap = w.heap → (Builtin.firstCells s xs.length (.slice base xs.length cap)).run P w2 = .ok old.toArray w2) ∧ RowDen A w s xs old := by
   by_cases hne : cap = 0
   ·subst hne
    have : xs = [] := List.eq_nil_of_length_eq_zero (by omega)
    subst this
    obtain ⟨a, ha⟩ := hdx.msl_any
    refine ⟨a, [], ha, fun w2 _ => ?_, RowDen.nil s⟩
    cases a <;> simp [Builtin.firstCells, loadCells, loadCellsFrom]
   ·obtain ⟨b', hb', hvx⟩ := hdx.msl_inv hne
    rw [hbb] at hb'
    cases hb'
    rw [Nat.zero_mul] at hvx
    obtain ⟨old, h1, h2⟩ := run_firstm (P := P) hobj hne cap
    exact ⟨_, old, hvx, h1, h2⟩
  obtain ⟨base, old, hvx, hold, hrow0⟩ := hold
  have hg := run_growS (P := P) (w := w) hu hu2 hie hse hbe hzv hb0 (base := base) (n := xs.length) (cap := cap) (v := (⟨tmps.toArray, []⟩ : Act).eval y) (m := ys.length) (old := old) (new := cs) hlenv hold hf (by omega) hbd o.type
  obtain ⟨hc1, hc2⟩ := cap_cut (xs.length + ys.length) cap e (w.tape w.drawn (Question.appendCap (xs.length + ys.length) cap e)) hml
  generalize (Question.appendCap (xs.length + ys.length) cap e).cut (w.tape w.drawn (Question.appendCap (xs.length + ys.length) cap e)) = cap' at *
  rw [run_callb (o := o) ho rfl, hvx, hg]
  have hE : Ext A w A { w with drawn := w.drawn + 1 } := ⟨fun _ h => h, fun _ _ => rfl⟩
  have hi1 := (hi.weaken (StLe.kill st i)).drew
  have hE2 := hi1.ext_alloc (.cells (old ++ (cs ++ (Builtin.zeroCells zv.cells (cap' - (xs.length + ys.length))).toList)).toArray e)
  refine ⟨_, _, _, A, β ++ [w.heap.size], rfl, hK cap' hc1 (by omega), ?_, hi1.snoc _ _ (arr_of_row (T := e) (cs := old ++ cs) (zs := (Builtin.zeroCells zv.cells (cap' - (xs.length + ys.length))).toList) ?_ (((hrow0.append hrow).mono hE).mono hE2) ?_ (by simpa using hc1) hc2), hE.trans hE2, Pre.snoc _ _⟩
  ·have : Den A (({ w with drawn := w.drawn + 1 } : World).alloc (.cells (old ++ (cs ++ (Builtin.zeroCells zv.cells (cap' - (xs.length + ys.length))).toList)).toArray e)) (β ++ [w.heap.size]) (.msl s st.length 0 (xs.length + ys.length) cap') (.slice (some ⟨w.heap.size, 0 * s, none⟩) (xs.length + ys.length) cap') := .msl _ _ _ _ _ _ _ (by rw [← hlen]; simp)
   rwa [Nat.zero_mul] at this
  ·show (w.heap.push _)[w.heap.size]? = _
   simp
  ·rw [List.length_append, List.length_append, zeroCells_len, hrow0.1, hrow.1, hzs, ← Nat.add_mul, ← Nat.add_mul]
   congr 1
   omega
theorem op_appendS {K : PV → List PObj → Prop} {T T2 b i n cap : Nat} {x y : Operand} {xs u : List UInt8} (hT : Tys P tys) (ho : o.op = .call ⟨.builtin .append, #[x, y], #[T, T2]⟩) (hk : appOk tys T T 1 b = true) {z1 z2 : Nat} {z3 : Option (List PV)} (ht2 : tys[T2]? = some ⟨.str, z1, z2, z3⟩)
  (hx : pe env x = .msl 1 i 0 n cap) (hst : st[i]? = some (.arr 1 (xs.map eByte) cap)) (hn : n = xs.length) (hy : pe env y = .str u) (hpos : 0 < u.length ∨ cap ≠ 0) (hbd : (xs.length + u.length) * b ≤ 140737488355328)
  (hK : ∀ cap', xs.length + u.length ≤ cap' → cap' ≠ 0 → K (.msl 1 st.length 0 (xs.length + u.length) cap') (st.set i .dead ++ [.arr 1 ((xs ++ u).map eByte) cap'])) : OpP P Gl B o env st K := by
 intro A w β tmps Q' hi he
 obtain ⟨_, d2, _, hu2, htk2, _⟩ := tyOf_spec (hT _ _ ht2)
 have q2 := tkOf_str htk2
 subst q2
 have hdx := he.eval [] x
 have hdy := he.eval [] y
 rw [hx] at hdx
 rw [hy] at hdy
 have hv := hdy.str_inv
 have hsz : (⟨u.toArray⟩ : ByteArray).size = (u.map eByte).length := by simp [ByteArray.size]
 have hext : (⟨u.toArray⟩ : ByteArray).extract 0 u.length = ⟨u.toArray⟩ := by
  have : u.length = (⟨u.toArray⟩ : ByteArray).size := by simp [ByteArray.size]
  rw [this, ByteArray.extract_zero_size]
 refine append_coreS (K := K) (xs := xs.map eByte) (ys := u.map eByte) (cs := u.map fun b => Value.int .u8 (b.toNat : Int)) hT ho hk hu2 hst (by rw [List.length_map]; exact hn) (by rw [List.length_map]; exact hpos) (fun y hy => by obtain ⟨b, _, rfl⟩ := List.mem_map.1 hy; rfl) (bytes_one u) (by simpa using hbd) hi hdx hv hsz (fun w2 _ => ?_) ⟨by simp, fun y hy => by obtain ⟨b, _, rfl⟩ := List.mem_map.1 hy; rfl, fun i x j c hx hc => ?_⟩ fun cap' h1 h2 => ?_
 ·rw [hv, List.length_map]
  simp only [Builtin.firstCells, Sem.run_pure, hext]
  congr 1
  apply Array.ext'
  simp
 ·rw [List.getElem?_map] at hx
  cases hb : u[i]? with
  | none => rw [hb] at hx; cases hx
  | some b =>
   rw [hb] at hx
   cases hx
   have hj0 : j = 0 := by
    have := (List.getElem?_eq_some_iff.1 hc).1
    simp [eByte, PV.cells] at this
    omega
   subst hj0
   have hc' : c = .int .u8 (b.toNat : Int) := by simpa [eByte, PV.cells] using hc.symm
   subst hc'
   exact ⟨.int .u8 (b.toNat : Int), by rw [Nat.mul_one, Nat.add_zero, List.getElem?_map, hb]; rfl, .int ..⟩
 ·rw [List.length_map, List.length_map] at h1 ⊢
  have := hK cap' h1 h2
  rw [List.map_append] at this
  exact this
theorem Inv.boxArr {i : Nat} {cs : List PV} (hi : Inv Gl B A w β st) (hst : st[i]? = some (.box cs)) (hcell : ∀ c ∈ cs, c.cells = [c]) (hg : cs.all (PV.refs (fun _ => false) 5) = true) (hm : cs.length ≤ maxLen) : Inv Gl B A w β (st.set i (.arr 1 cs cs.length)) := by
 have hil : i < st.length := (List.getElem?_eq_some_iff.1 hst).1
 have hlen := hi.len
 have hb : β[i]? = some (β[i]'(by omega)) := List.getElem?_eq_getElem (by omega)
 obtain ⟨vs, T, fr, g1, g2, g3, g4⟩ := hi.obj i _ _ hb hst
 refine (hi.write (x := .arr 1 cs cs.length) hb hst rfl rfl rfl rfl rfl (fun _ _ => rfl) ⟨Nat.le_refl _, hm, fun x hx => by rw [hcell x hx]; rfl, fun _ => ⟨vs, T, fr, g1, by omega, fun j hj => g3 j (by omega), fun k x j c hx hc => ?_⟩⟩).1
 have hxm := List.mem_of_getElem? hx
 rw [hcell x hxm] at hc
 have hj0 : j = 0 := by
  have := (List.getElem?_eq_some_iff.1 hc).1
  simp at this
  omega
 subst hj0
 have hc' : x = c := by simpa using hc
 subst hc'
 have hk : k < vs.length := by rw [g2]; exact (List.getElem?_eq_some_iff.1 hx).1
 refine ⟨vs[k], by rw [Nat.mul_one, Nat.add_zero]; exact List.getElem?_eq_getElem hk, ?_⟩
 exact (g4 k x _ hx (List.getElem?_eq_getElem hk)).ground (List.all_eq_true.1 hg x hxm)
theorem pw_boxArr (i : Nat) {c : Code} {cs : List PV} (hst : st[i]? = some (.box cs)) (hcell : ∀ c ∈ cs, c.cells = [c]) (hg : cs.all (PV.refs (fun _ => false) 5) = true) (hm : cs.length ≤ maxLen) (h : PW P Gl B c env (st.set i (.arr 1 cs cs.length)) Q) : PW P Gl B c env st Q :=
 fun A w β tmps hi he => h A w β tmps (hi.boxArr hst hcell hg hm) he
theorem Inv.arrBox {i cap : Nat} {cs : List PV} (hi : Inv Gl B A w β st) (hst : st[i]? = some (.arr 1 cs cap)) (hc : cs.length = cap) (hpos : cap ≠ 0) (hcell : ∀ c ∈ cs, c.cells = [c]) : Inv Gl B A w β (st.set i (.box cs)) := by
 have hil : i < st.length := (List.getElem?_eq_some_iff.1 hst).1
 have hlen := hi.len
 have hb : β[i]? = some (β[i]'(by omega)) := List.getElem?_eq_getElem (by omega)
 have hlive : PObj.live (.arr 1 cs cap) = true := by cases cap with | zero => exact (hpos rfl).elim | succ c => rfl
 obtain ⟨q1, q2, q3, q4⟩ := hi.obj i _ _ hb hst
 obtain ⟨vs, T, fr, g1, g2, g3, g4⟩ := q4 hpos
 refine (hi.write (x := .box cs) hb hst hlive rfl rfl rfl rfl (fun _ _ => rfl) ⟨vs, T, fr, g1, by omega, fun j hj => g3 j (by omega), fun j c v hcj hv => ?_⟩).1
 have hcm := List.mem_of_getElem? hcj
 obtain ⟨v', hv', hd⟩ := g4 j c 0 c hcj (by rw [hcell c hcm]; rfl)
 rw [Nat.mul_one, Nat.add_zero, hv] at hv'
 cases hv'
 exact hd.lift
theorem pw_arrBox (i : Nat) {c : Code} {cap : Nat} {cs : List PV} (hst : st[i]? = some (.arr 1 cs cap)) (hc : cs.length = cap) (hpos : cap ≠ 0) (hcell : ∀ c ∈ cs, c.cells = [c]) (h : PW P Gl B c env (st.set i (.box cs)) Q) : PW P Gl B c env st Q :=
 fun A w β tmps hi he => h A w β tmps (hi.arrBox hst hc hpos hcell) he
theorem pl_arrBox (i : Nat) {cap : Nat} {cs : List PV} (hst : st[i]? = some (.arr 1 cs cap)) (hc : cs.length = cap) (hpos : cap ≠ 0) (hcell : ∀ c ∈ cs, c.cells = [c]) (h : PWL P Gl B ops rest env (st.set i (.box cs)) Q) : PWL P Gl B ops rest env st Q :=
 fun A w β tmps hi he => h A w β tmps (hi.arrBox hst hc hpos hcell) he
theorem bytes_cell (l : List UInt8) : ∀ c ∈ l.map eByte, c.cells = [c] := fun c hc => by obtain ⟨b, _, rfl⟩ := List.mem_map.1 hc; rfl
theorem bytes_refs (l : List UInt8) : (l.map eByte).all (PV.refs (fun _ => false) 5) = true := by rw [List.all_map]; exact List.all_eq_true.2 fun _ _ => rfl
theorem v_sliceP {t : TypeId} {x : Operand} {hi : Option Operand} {i n m e s z1 z2 : Nat} {z3 : Option (List PV)} (hT : Tys P tys) (ho : o.op = .slice t x none hi none) (ht : tys[t]? = some ⟨.arr n e s, z1, z2, z3⟩) (hs : s = 1)
  (hx : pe env x = .ptr i 0) (hh : bnd env n hi = some (m : Int)) (h2 : m ≤ n) (hn : n ≠ 0) : OpV P Gl B o env (.msl 1 i 0 m n) := fun _ A w β tmps _ he => by
 obtain ⟨ti, d, hi1, hu, htk, _⟩ := tyOf_spec (hT _ _ ht)
 obtain ⟨rfl, hse⟩ := tkOf_arr htk
 subst hs
 have hd := he.eval [] x
 rw [hx] at hd
 obtain ⟨b, hb, hv⟩ := hd.ptr_inv
 have hbd := run_bounds (P := P) (w := w) he (lo := none) (hi := hi) (n := n) (cap := n) false (l := 0) (h := (m : Int)) rfl hh (Int.le_refl _) (by omega) (by omega)
 refine ⟨.slice (some ⟨b, 0 * 1, none⟩) m n, ?_, .msl _ _ _ _ _ _ _ hb⟩
 simp only [execOp, ho, Instr.sliceAt, hv, Sem.run_bind, run_underlying hu, Result.andThen_ok, Instr.sureAddr, Sem.run_pure]
 have hbd' : (Instr.sliceBounds false n n none (hi.map fun y => (⟨tmps.toArray, []⟩ : Act).eval y) none).run P w = .ok (0, m, n) w := by
  have := hbd
  simpa using this
 simp only [Option.map_none, hbd', Result.andThen_ok, run_size hse]
 rw [if_neg hn]
 simp [Addr.add]
end rules
end Go.Pw
