/-
  Appending a string to bytes of the function's own; arrays of a fixed length as rows of elements.
-/
import Derived.Test.YtdehdgbdcfkpbaaGreatDoorJPwFrz2
namespace Go.Pw
open Go
section rules
variable {P : Program} {Gl : Glob} {B : Base} {tys : List TI} {env : List PV} {st : List PObj} {ops : Array Oper} {rest : List Oper} {o : Oper} {Q : Post}
  {A : Nat → Prop} {w : World} {β : List Nat} {tmps : List Value}
/-- What the model's append does where it has to make room. -/
theorem run_growS {T T2 e : TypeId} {s b : Nat} {tie : TypeInfo} {zv : Value} (hu : P.underlying T = some (.slice e)) (hu2 : P.underlying T2 = some .string) (hie : P.info? e = some tie) (hs : tie.size = s) (hb : tie.bytes = b) (hz : tie.zero = some zv) (hby : 0 < b)
    {base : Option Addr} {n cap : Nat} {v : Value} {m : Nat} {old new : List Value} (hm : (Builtin.lenOf v).run P w = .ok m w) (hold : ∀ w2 : World, w2.heap = w.heap → (Builtin.firstCells s n (.slice base n cap)).run P w2 = .ok old.toArray w2)
    (hnew : ∀ w2 : World, w2.heap = w.heap → (Builtin.firstCells s m v).run P w2 = .ok new.toArray w2) (hg : cap < n + m) (hbd : (n + m) * b ≤ 140737488355328) (ty : TypeId) :
    (Builtin.append_ #[T, T2] ty #[.slice base n cap, v]).run P w = .ok (.slice (some ⟨w.heap.size, 0, none⟩) (n + m) ((Question.appendCap (n + m) cap e).cut (w.tape w.drawn (Question.appendCap (n + m) cap e))))
      (({ w with drawn := w.drawn + 1 } : World).alloc (.cells (old ++ (new ++ (Builtin.zeroCells zv.cells ((Question.appendCap (n + m) cap e).cut (w.tape w.drawn (Question.appendCap (n + m) cap e)) - (n + m))).toList)).toArray e)) := by
  have hzr : ∀ w', (zeroValue e).run P w' = .ok zv w' := fun w' => by simp [zeroValue, run_info hie, hz]
  have hir : ∀ w', (typeInfo e).run P w' = .ok tie w' := fun w' => run_info hie w'
  have hsr : ∀ w', (sizeOf e).run P w' = .ok s w' := fun w' => run_size (by simp [szOf, hie, hs]) w'
  have hfits : ¬ (Builtin.nextslicecap (n + m) cap * tie.bytes > 2 ^ 48) := by
    have := growslice_fits (need := n + m) (old := cap) (bytes := b) hg hbd
    rw [hb]; omega
  have hbz : ¬ tie.bytes = 0 := by omega
  have hfo : (Question.appendCap (n + m) cap e).forced = false := rfl
  simp only [Builtin.append_, List.getElem?_toArray, List.getElem?_cons_zero, List.getElem?_cons_succ, Sem.run_bind, run_underlying hu, run_underlying hu2, Result.andThen_ok, hsr, Sem.run_pure, Bool.false_eq_true, if_false, hm]
  rw [if_neg (by omega)]
  simp only [Sem.run_bind, hir, Result.andThen_ok, hbz]
  rw [if_neg (by simp)]
  simp only [Sem.run_bind, hir, Result.andThen_ok]
  rw [if_neg hfits]
  simp only [Sem.run_bind, run_choose, hfo, Bool.false_eq_true, if_false, Result.andThen_ok, hir, run_askRoom, hold { w with drawn := w.drawn + 1 } rfl, hnew { w with drawn := w.drawn + 1 } rfl, hzr, Bool.not_false, if_true]
  simp [newRow]
  congr 2
  apply Array.ext'
  simp

/-- Where there is room. -/
theorem run_fitS {T T2 e : TypeId} {s : Nat} (hu : P.underlying T = some (.slice e)) (hu2 : P.underlying T2 = some .string) (hs : szOf P e = some s)
    {a : Addr} {n cap : Nat} {v : Value} {m : Nat} {new : List Value} (hm : (Builtin.lenOf v).run P w = .ok m w) (hnew : (Builtin.firstCells s m v).run P w = .ok new.toArray w) (hg : n + m ≤ cap) (ty : TypeId) {w' : World}
    (hst : (storeCells (a.add (n * s)) new).run P w = .ok () w') : (Builtin.append_ #[T, T2] ty #[.slice (some a) n cap, v]).run P w = .ok (.slice (some a) (n + m) cap) w' := by
  simp only [Builtin.append_, List.getElem?_toArray, List.getElem?_cons_zero, List.getElem?_cons_succ, Sem.run_bind, run_underlying hu, run_underlying hu2, Result.andThen_ok, run_size hs, Sem.run_pure, Bool.false_eq_true, if_false, hm]
  rw [if_pos hg]
  simp only [Sem.run_bind, hnew, Result.andThen_ok, Bool.not_false, if_true, hst, Sem.run_pure]

/-- What 'append(x, y...)' does, wherever y's cells stand. -/
theorem append_coreS {K : PV → List PObj → Prop} {T T2 s b i n cap : Nat} {x y : Operand} {xs ys : List PV} {Q' : Exit → Act → World → Prop} (hT : Tys P tys) (ho : o.op = .call ⟨.builtin .append, #[x, y], #[T, T2]⟩) (hk : appOk tys T T s b = true) (hu2 : P.underlying T2 = some .string) (hst : st[i]? = some (.arr s xs cap)) (hn : n = xs.length)
    (hpos : 0 < ys.length ∨ cap ≠ 0) (hs' : ∀ y ∈ ys, y.cells.length = s) (hon : ys.all (fun y => y.cells.all PV.one) = true) (hbd : (xs.length + ys.length) * b ≤ 140737488355328)
    (hi : Inv Gl B A w β st) (hdx : Den A w β (.msl s i 0 n cap) ((⟨tmps.toArray, []⟩ : Act).eval x)) {cs : List Value} {ua : ByteArray} (hv : (⟨tmps.toArray, []⟩ : Act).eval y = .string ua) (hua : ua.size = ys.length) (hf : ∀ w2 : World, w2.heap = w.heap → (Builtin.firstCells s ys.length ((⟨tmps.toArray, []⟩ : Act).eval y)).run P w2 = .ok cs.toArray w2) (hrow : RowDen A w s ys cs)
    (hK : ∀ cap', xs.length + ys.length ≤ cap' → cap' ≠ 0 → K (.msl s st.length 0 (xs.length + ys.length) cap') (st.set i .dead ++ [.arr s (xs ++ ys) cap'])) : o.wp P ⟨tmps.toArray, []⟩ w (OpOut Gl B o.dst tmps A w β K) Q' := by
  obtain ⟨e, tie, zv, ⟨hu, ⟨_, _⟩, hie, hse, hbe, hzv, hzs⟩, hb0⟩ := appOk_spec hT hk
  subst hn
  have hlen := hi.len
  have hil : i < st.length := (List.getElem?_eq_some_iff.1 hst).1
  have hbb : β[i]? = some (β[i]'(by omega)) := List.getElem?_eq_getElem (by omega)
  generalize (β[i]'(by omega)) = bb at hbb
  have hobj := hi.obj i bb _ hbb hst
  have hlenv : (Builtin.lenOf ((⟨tmps.toArray, []⟩ : Act).eval y)).run P w = .ok ys.length w := by rw [hv]; simp [Builtin.lenOf, hua]
  have hml : xs.length + ys.length ≤ maxLen := by
    have : (xs.length + ys.length) * 1 ≤ (xs.length + ys.length) * b := Nat.mul_le_mul_left _ hb0
    unfold maxLen; omega
  have hxc : xs.length ≤ cap := hobj.1
  unfold Oper.wp
  by_cases hfit : xs.length + ys.length ≤ cap
  · have hne : cap ≠ 0 := by omega
    obtain ⟨b', hb', hvx⟩ := hdx.msl_inv hne
    rw [hbb] at hb'
    cases hb'
    rw [Nat.zero_mul] at hvx
    have hlive : PObj.live (.arr s xs cap) = true := by cases cap with | zero => exact (hne rfl).elim | succ c => rfl
    have hlive2 : PObj.live (.arr s (xs ++ ys) cap) = true := by cases cap with | zero => exact (hne rfl).elim | succ c => rfl
    obtain ⟨h4, h5, h6, h0⟩ := id hobj
    obtain ⟨vs, T', fr, h1, h2, h3, h7⟩ := h0 hne
    have hcsl : cs.length = ys.length * s := hrow.1
    have hone : ∀ u ∈ cs, u.oneCell' = true := hrow.cells hon
    have hle : xs.length * s + ys.length * s ≤ cap * s := by rw [← Nat.add_mul]; exact Nat.mul_le_mul_right _ hfit
    obtain ⟨w', r1, r2, r3, r4, r5, r6, r7⟩ := run_storeCells (P := P) bb T' fr cs 0 (xs.length * s) vs w h1 (by omega) hone (by rw [h2]; exact h3)
    have hE : Ext A w A w' := ⟨fun _ h => h, fun k hkk => r6 k (fun e => hi.notA i bb hbb ⟨_, hst, hlive⟩ (e ▸ hkk))⟩
    have hx' : ObjRel A β w' bb (.arr s (xs ++ ys) cap) := by
      refine ⟨by simpa using hfit, h5, fun z hz => by rcases List.mem_append.1 hz with hz | hz; exact h6 z hz; exact hs' z hz, fun _ => ⟨_, T', fr, r7, by simp; omega, h3, fun ii z j c hz hc => ?_⟩⟩
      have hjs : j < s := by
        have : z.cells.length = s := by rcases List.mem_append.1 (List.mem_of_getElem? hz) with hz | hz; exact h6 z hz; exact hs' z hz
        rw [← this]; exact (List.getElem?_eq_some_iff.1 hc).1
      rw [Nat.add_zero]
      by_cases hii : ii < xs.length
      · rw [List.getElem?_append_left hii] at hz
        obtain ⟨v, hv, hd⟩ := h7 ii z j c hz hc
        have : (ii + 1) * s ≤ xs.length * s := Nat.mul_le_mul_right _ hii
        rw [Nat.add_mul] at this
        refine ⟨v, ?_, hd.mono hE (.refl _)⟩
        rw [List.append_assoc, List.getElem?_append_left (by simp; omega), List.getElem?_take, if_pos (by omega)]
        exact hv
      · rw [List.getElem?_append_right (by omega)] at hz
        obtain ⟨v, hv, hd⟩ := hrow.2.2 _ z j c hz hc
        have hik : ii * s = xs.length * s + (ii - xs.length) * s := by rw [← Nat.add_mul]; congr 1; omega
        have hlt := (List.getElem?_eq_some_iff.1 hv).1
        refine ⟨v, ?_, hd.mono hE (.refl _)⟩
        rw [List.getElem?_append_left (by simp; omega), List.getElem?_append_right (by simp; omega)]
        rw [← hv]
        congr 1
        simp; omega
    obtain ⟨hi', hE'⟩ := hi.write hbb hst hlive r2 r3 r4 r5 r6 hx'
    have hmv := hi'.move (i := i) (b := bb) (x := .arr s (xs ++ ys) cap) (y := .arr s (xs ++ ys) cap) hbb (by rw [List.getElem?_set_self hil]) hlive2 (hx'.mono (.refl _ _) (Pre.snoc _ _) rfl)
    rw [List.set_set] at hmv
    have hrun := run_fitS (P := P) (w := w) hu hu2 (by simp [szOf, hie, hse]) (a := ⟨bb, 0, none⟩) (n := xs.length) (cap := cap) hlenv (hf w rfl) hfit o.type (w' := w') (by rw [addr_add, Nat.zero_add]; exact r1)
    rw [run_callb (o := o) ho rfl, hvx, hrun]
    refine ⟨_, _, _, A, β ++ [bb], rfl, hK cap hfit hne, ?_, hmv, hE', Pre.snoc _ _⟩
    have : Den A w' (β ++ [bb]) (.msl s st.length 0 (xs.length + ys.length) cap) (.slice (some ⟨bb, 0 * s, none⟩) (xs.length + ys.length) cap) := .msl _ _ _ _ _ _ _ (by rw [← hlen]; simp)
    rwa [Nat.zero_mul] at this
  · have hold : ∃ (base : Option Addr) (old : List Value), (⟨tmps.toArray, []⟩ : Act).eval x = .slice base xs.length cap ∧ (∀ w2 : World, w2.heap = w.heap → (Builtin.firstCells s xs.length (.slice base xs.length cap)).run P w2 = .ok old.toArray w2) ∧ RowDen A w s xs old := by
      by_cases hne : cap = 0
      · subst hne
        have : xs = [] := List.eq_nil_of_length_eq_zero (by omega)
        subst this
        obtain ⟨a, ha⟩ := hdx.msl_any
        refine ⟨a, [], ha, fun w2 _ => ?_, RowDen.nil s⟩
        cases a <;> simp [Builtin.firstCells, loadCells, loadCellsFrom]
      · obtain ⟨b', hb', hvx⟩ := hdx.msl_inv hne
        rw [hbb] at hb'
        cases hb'
        rw [Nat.zero_mul] at hvx
        obtain ⟨old, h1, h2⟩ := run_firstm (P := P) hobj hne cap
        exact ⟨_, old, hvx, h1, h2⟩
    obtain ⟨base, old, hvx, hold, hrow0⟩ := hold
    have hg := run_growS (P := P) (w := w) hu hu2 hie hse hbe hzv hb0 (base := base) (n := xs.length) (cap := cap) (v := (⟨tmps.toArray, []⟩ : Act).eval y) (m := ys.length) (old := old) (new := cs) hlenv hold hf (by omega) hbd o.type
    obtain ⟨hc1, hc2⟩ := cap_cut (xs.length + ys.length) cap e (w.tape w.drawn (Question.appendCap (xs.length + ys.length) cap e)) hml
    generalize (Question.appendCap (xs.length + ys.length) cap e).cut (w.tape w.drawn (Question.appendCap (xs.length + ys.length) cap e)) = cap' at *
    rw [run_callb (o := o) ho rfl, hvx, hg]
    have hE : Ext A w A { w with drawn := w.drawn + 1 } := ⟨fun _ h => h, fun _ _ => rfl⟩
    have hi1 := (hi.weaken (StLe.kill st i)).drew
    have hE2 := hi1.ext_alloc (.cells (old ++ (cs ++ (Builtin.zeroCells zv.cells (cap' - (xs.length + ys.length))).toList)).toArray e)
    refine ⟨_, _, _, A, β ++ [w.heap.size], rfl, hK cap' hc1 (by omega), ?_, hi1.snoc _ _ (arr_of_row (T := e) (cs := old ++ cs) (zs := (Builtin.zeroCells zv.cells (cap' - (xs.length + ys.length))).toList) ?_ (((hrow0.append hrow).mono hE).mono hE2) ?_ (by simpa using hc1) hc2), hE.trans hE2, Pre.snoc _ _⟩
    · have : Den A (({ w with drawn := w.drawn + 1 } : World).alloc (.cells (old ++ (cs ++ (Builtin.zeroCells zv.cells (cap' - (xs.length + ys.length))).toList)).toArray e)) (β ++ [w.heap.size]) (.msl s st.length 0 (xs.length + ys.length) cap') (.slice (some ⟨w.heap.size, 0 * s, none⟩) (xs.length + ys.length) cap') := .msl _ _ _ _ _ _ _ (by rw [← hlen]; simp)
      rwa [Nat.zero_mul] at this
    · show (w.heap.push _)[w.heap.size]? = _
      simp
    · rw [List.length_append, List.length_append, zeroCells_len, hrow0.1, hrow.1, hzs, ← Nat.add_mul, ← Nat.add_mul]
      congr 1
      omega

/-- 'append(x, s...)' where s is a string. -/
theorem op_appendS {K : PV → List PObj → Prop} {T T2 b i n cap : Nat} {x y : Operand} {xs u : List UInt8} (hT : Tys P tys) (ho : o.op = .call ⟨.builtin .append, #[x, y], #[T, T2]⟩) (hk : appOk tys T T 1 b = true) {z1 z2 : Nat} {z3 : Option (List PV)} (ht2 : tys[T2]? = some ⟨.str, z1, z2, z3⟩)
    (hx : pe env x = .msl 1 i 0 n cap) (hst : st[i]? = some (.arr 1 (xs.map eByte) cap)) (hn : n = xs.length) (hy : pe env y = .str u) (hpos : 0 < u.length ∨ cap ≠ 0) (hbd : (xs.length + u.length) * b ≤ 140737488355328)
    (hK : ∀ cap', xs.length + u.length ≤ cap' → cap' ≠ 0 → K (.msl 1 st.length 0 (xs.length + u.length) cap') (st.set i .dead ++ [.arr 1 ((xs ++ u).map eByte) cap'])) : OpP P Gl B o env st K := by
  intro A w β tmps Q' hi he
  obtain ⟨_, d2, _, hu2, htk2, _⟩ := tyOf_spec (hT _ _ ht2)
  have q2 := tkOf_str htk2
  subst q2
  have hdx := he.eval [] x
  have hdy := he.eval [] y
  rw [hx] at hdx
  rw [hy] at hdy
  have hv := hdy.str_inv
  have hsz : (⟨u.toArray⟩ : ByteArray).size = (u.map eByte).length := by simp [ByteArray.size]
  have hext : (⟨u.toArray⟩ : ByteArray).extract 0 u.length = ⟨u.toArray⟩ := by
    have : u.length = (⟨u.toArray⟩ : ByteArray).size := by simp [ByteArray.size]
    rw [this, ByteArray.extract_zero_size]
  refine append_coreS (K := K) (xs := xs.map eByte) (ys := u.map eByte) (cs := u.map fun b => Value.int .u8 (b.toNat : Int)) hT ho hk hu2 hst (by rw [List.length_map]; exact hn) (by rw [List.length_map]; exact hpos) (fun y hy => by obtain ⟨b, _, rfl⟩ := List.mem_map.1 hy; rfl) (bytes_one u) (by simpa using hbd) hi hdx hv hsz (fun w2 _ => ?_) ⟨by simp, fun y hy => by obtain ⟨b, _, rfl⟩ := List.mem_map.1 hy; rfl, fun i x j c hx hc => ?_⟩ fun cap' h1 h2 => ?_
  · rw [hv, List.length_map]
    simp only [Builtin.firstCells, Sem.run_pure, hext]
    congr 1
    apply Array.ext'
    simp
  · rw [List.getElem?_map] at hx
    cases hb : u[i]? with
    | none => rw [hb] at hx; cases hx
    | some b =>
      rw [hb] at hx
      cases hx
      have hj0 : j = 0 := by
        have := (List.getElem?_eq_some_iff.1 hc).1
        simp [eByte, PV.cells] at this
        omega
      subst hj0
      have hc' : c = .int .u8 (b.toNat : Int) := by simpa [eByte, PV.cells] using hc.symm
      subst hc'
      exact ⟨.int .u8 (b.toNat : Int), by rw [Nat.mul_one, Nat.add_zero, List.getElem?_map, hb]; rfl, .int ..⟩
  · rw [List.length_map, List.length_map] at h1 ⊢
    have := hK cap' h1 h2
    rw [List.map_append] at this
    exact this
/-- A box of plain cells as an array of as many elements. -/
theorem Inv.boxArr {i : Nat} {cs : List PV} (hi : Inv Gl B A w β st) (hst : st[i]? = some (.box cs)) (hcell : ∀ c ∈ cs, c.cells = [c]) (hg : cs.all (PV.refs (fun _ => false) 5) = true) (hm : cs.length ≤ maxLen) : Inv Gl B A w β (st.set i (.arr 1 cs cs.length)) := by
  have hil : i < st.length := (List.getElem?_eq_some_iff.1 hst).1
  have hlen := hi.len
  have hb : β[i]? = some (β[i]'(by omega)) := List.getElem?_eq_getElem (by omega)
  obtain ⟨vs, T, fr, g1, g2, g3, g4⟩ := hi.obj i _ _ hb hst
  refine (hi.write (x := .arr 1 cs cs.length) hb hst rfl rfl rfl rfl rfl (fun _ _ => rfl) ⟨Nat.le_refl _, hm, fun x hx => by rw [hcell x hx]; rfl, fun _ => ⟨vs, T, fr, g1, by omega, fun j hj => g3 j (by omega), fun k x j c hx hc => ?_⟩⟩).1
  have hxm := List.mem_of_getElem? hx
  rw [hcell x hxm] at hc
  have hj0 : j = 0 := by
    have := (List.getElem?_eq_some_iff.1 hc).1
    simp at this
    omega
  subst hj0
  have hc' : x = c := by simpa using hc
  subst hc'
  have hk : k < vs.length := by rw [g2]; exact (List.getElem?_eq_some_iff.1 hx).1
  refine ⟨vs[k], by rw [Nat.mul_one, Nat.add_zero]; exact List.getElem?_eq_getElem hk, ?_⟩
  exact (g4 k x _ hx (List.getElem?_eq_getElem hk)).ground (List.all_eq_true.1 hg x hxm)
theorem pw_boxArr (i : Nat) {c : Code} {cs : List PV} (hst : st[i]? = some (.box cs)) (hcell : ∀ c ∈ cs, c.cells = [c]) (hg : cs.all (PV.refs (fun _ => false) 5) = true) (hm : cs.length ≤ maxLen) (h : PW P Gl B c env (st.set i (.arr 1 cs cs.length)) Q) : PW P Gl B c env st Q :=
  fun A w β tmps hi he => h A w β tmps (hi.boxArr hst hcell hg hm) he
/-- … and back. -/
theorem Inv.arrBox {i cap : Nat} {cs : List PV} (hi : Inv Gl B A w β st) (hst : st[i]? = some (.arr 1 cs cap)) (hc : cs.length = cap) (hpos : cap ≠ 0) (hcell : ∀ c ∈ cs, c.cells = [c]) : Inv Gl B A w β (st.set i (.box cs)) := by
  have hil : i < st.length := (List.getElem?_eq_some_iff.1 hst).1
  have hlen := hi.len
  have hb : β[i]? = some (β[i]'(by omega)) := List.getElem?_eq_getElem (by omega)
  have hlive : PObj.live (.arr 1 cs cap) = true := by cases cap with | zero => exact (hpos rfl).elim | succ c => rfl
  obtain ⟨q1, q2, q3, q4⟩ := hi.obj i _ _ hb hst
  obtain ⟨vs, T, fr, g1, g2, g3, g4⟩ := q4 hpos
  refine (hi.write (x := .box cs) hb hst hlive rfl rfl rfl rfl (fun _ _ => rfl) ⟨vs, T, fr, g1, by omega, fun j hj => g3 j (by omega), fun j c v hcj hv => ?_⟩).1
  have hcm := List.mem_of_getElem? hcj
  obtain ⟨v', hv', hd⟩ := g4 j c 0 c hcj (by rw [hcell c hcm]; rfl)
  rw [Nat.mul_one, Nat.add_zero, hv] at hv'
  cases hv'
  exact hd.lift
theorem pw_arrBox (i : Nat) {c : Code} {cap : Nat} {cs : List PV} (hst : st[i]? = some (.arr 1 cs cap)) (hc : cs.length = cap) (hpos : cap ≠ 0) (hcell : ∀ c ∈ cs, c.cells = [c]) (h : PW P Gl B c env (st.set i (.box cs)) Q) : PW P Gl B c env st Q :=
  fun A w β tmps hi he => h A w β tmps (hi.arrBox hst hc hpos hcell) he
theorem pl_arrBox (i : Nat) {cap : Nat} {cs : List PV} (hst : st[i]? = some (.arr 1 cs cap)) (hc : cs.length = cap) (hpos : cap ≠ 0) (hcell : ∀ c ∈ cs, c.cells = [c]) (h : PWL P Gl B ops rest env (st.set i (.box cs)) Q) : PWL P Gl B ops rest env st Q :=
  fun A w β tmps hi he => h A w β tmps (hi.arrBox hst hc hpos hcell) he
theorem bytes_cell (l : List UInt8) : ∀ c ∈ l.map eByte, c.cells = [c] := fun c hc => by obtain ⟨b, _, rfl⟩ := List.mem_map.1 hc; rfl
theorem bytes_refs (l : List UInt8) : (l.map eByte).all (PV.refs (fun _ => false) 5) = true := by rw [List.all_map]; exact List.all_eq_true.2 fun _ _ => rfl
/-- The first elements of an array of a fixed length. -/
theorem v_sliceP {t : TypeId} {x : Operand} {hi : Option Operand} {i n m e s z1 z2 : Nat} {z3 : Option (List PV)} (hT : Tys P tys) (ho : o.op = .slice t x none hi none) (ht : tys[t]? = some ⟨.arr n e s, z1, z2, z3⟩) (hs : s = 1)
    (hx : pe env x = .ptr i 0) (hh : bnd env n hi = some (m : Int)) (h2 : m ≤ n) (hn : n ≠ 0) : OpV P Gl B o env (.msl 1 i 0 m n) := fun _ A w β tmps _ he => by
  obtain ⟨ti, d, hi1, hu, htk, _⟩ := tyOf_spec (hT _ _ ht)
  obtain ⟨rfl, hse⟩ := tkOf_arr htk
  subst hs
  have hd := he.eval [] x
  rw [hx] at hd
  obtain ⟨b, hb, hv⟩ := hd.ptr_inv
  have hbd := run_bounds (P := P) (w := w) he (lo := none) (hi := hi) (n := n) (cap := n) false (l := 0) (h := (m : Int)) rfl hh (Int.le_refl _) (by omega) (by omega)
  refine ⟨.slice (some ⟨b, 0 * 1, none⟩) m n, ?_, .msl _ _ _ _ _ _ _ hb⟩
  simp only [execOp, ho, Instr.sliceAt, hv, Sem.run_bind, run_underlying hu, Result.andThen_ok, Instr.sureAddr, Sem.run_pure]
  have hbd' : (Instr.sliceBounds false n n none (hi.map fun y => (⟨tmps.toArray, []⟩ : Act).eval y) none).run P w = .ok (0, m, n) w := by
    have := hbd
    simpa using this
  simp only [Option.map_none, hbd', Result.andThen_ok, run_size hse]
  rw [if_neg hn]
  simp [Addr.add]
end rules
end Go.Pw
