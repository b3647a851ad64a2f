/-
 Arrays of the function's own: made, appended to, read, written, given up.
 Appending, and what becomes of arrays: moved, given up, lent.
-/
import Derived.Test.YtokclomhkggikaaGreatDoorJPwDraw
namespace Go.Pw
open Go
section rules
variable {P : Program} {Gl : Glob} {B : Base} {tys : List TI} {env : List PV} {st : List PObj} {ops : Array Oper} {rest : List Oper} {o : Oper} {Q : Post}
 {A : Nat → Prop} {w : World} {β : List Nat} {tmps : List Value}
theorem Den.ground {n : Nat} {p : PV} {v : Value} (h : Den A w β p v) (hp : p.refs (fun _ => false) n = true) : Den A w [] p v := by
 have := h.ren (β' := []) (d := fun _ => false) (r := fun i => i) (fun i b hf _ => by cases hf) n hp
 rwa [PV.ren_id] at this
def RowDen (A : Nat → Prop) (w : World) (k : Nat) (xs : List PV) (cs : List Value) : Prop :=
 cs.length = xs.length * k ∧ (∀ x ∈ xs, x.cells.length = k) ∧ ∀ (i : Nat) x (j : Nat) c, xs[i]? = some x → x.cells[j]? = some c → ∃ v, cs[i * k + j]? = some v ∧ Den A w [] c v
theorem RowDen.nil (k : Nat) : RowDen A w k [] [] := ⟨by simp, by simp, by intro i x j c h; simp at h⟩
theorem RowDen.append {k : Nat} {xs ys : List PV} {cs ds : List Value} (h : RowDen A w k xs cs) (g : RowDen A w k ys ds) : RowDen A w k (xs ++ ys) (cs ++ ds) := by
 obtain ⟨h1, h2, h3⟩ := h
 obtain ⟨g1, g2, g3⟩ := g
 refine ⟨by simp [h1, g1, Nat.add_mul], fun x hx => by rcases List.mem_append.1 hx with hx | hx; exact h2 x hx; exact g2 x hx, fun i x j c hx hc => ?_⟩
 have hj : j < k := by
  have hxm : x ∈ xs ++ ys := List.mem_of_getElem? hx
  have : x.cells.length = k := by rcases List.mem_append.1 hxm with hx | hx; exact h2 x hx; exact g2 x hx
  rw [← this]; exact (List.getElem?_eq_some_iff.1 hc).1
 by_cases hi : i < xs.length
 ·rw [List.getElem?_append_left hi] at hx
  obtain ⟨v, hv, hd⟩ := h3 i x j c hx hc
  refine ⟨v, ?_, hd⟩
  rw [List.getElem?_append_left (by rw [h1]; have : (i + 1) * k ≤ xs.length * k := Nat.mul_le_mul_right _ hi; rw [Nat.add_mul] at this; omega)]
  exact hv
 ·rw [List.getElem?_append_right (by omega)] at hx
  obtain ⟨v, hv, hd⟩ := g3 _ x j c hx hc
  refine ⟨v, ?_, hd⟩
  have hik : i * k = xs.length * k + (i - xs.length) * k := by rw [← Nat.add_mul]; congr 1; omega
  rw [List.getElem?_append_right (by rw [h1, hik]; omega), h1, hik]
  rw [show xs.length * k + (i - xs.length) * k + j - xs.length * k = (i - xs.length) * k + j by omega]
  exact hv
theorem RowDen.one {k : Nat} {x : PV} {v : Value} (h : Den A w β x v) (ho : x.okPart = true) (hr : x.refs (fun _ => false) 5 = true) (hk : x.cells.length = k) : ∃ cs : List Value, v.cells = cs.toArray ∧ RowDen A w k [x] cs := by
 obtain ⟨vs, h1, h2, h3⟩ := cells_den (h.ground hr) ho
 refine ⟨vs, h1, by simp [← h2, hk], by simpa using hk, fun i y j c hy hc => ?_⟩
 cases i with
 | zero =>
  simp at hy
  subst hy
  have hlt : j < vs.length := by rw [← h2]; exact (List.getElem?_eq_some_iff.1 hc).1
  exact ⟨vs[j], by simp [hlt], h3 j c _ hc (List.getElem?_eq_getElem hlt)⟩
 | succ i => simp at hy
theorem run_first {k : Nat} {ys : List PV} {v : Value} (h : Den A w β (.sl ys) v) (hk : ∀ y ∈ ys, y.cells.length = k) : ∃ (a : Option Addr) (cap : Nat) (cs : List Value), v = .slice a ys.length cap ∧ (∀ w2 : World, w2.heap = w.heap → (Builtin.firstCells k ys.length v).run P w2 = .ok cs.toArray w2) ∧ RowDen A w k ys cs := by
 cases h with
 | slnil => exact ⟨none, 0, [], rfl, by intro w2 _; simp [Builtin.firstCells], RowDen.nil k⟩
 | sl _ kk _ a cap f h1 h2 h3 h4 h5 h6 =>
  by_cases hne : ys = []
  ·subst hne
   exact ⟨some a, cap, [], rfl, by intro w2 _; simp [Builtin.firstCells, loadCells, loadCellsFrom], RowDen.nil k⟩
  obtain ⟨hA, hsp⟩ := h1 hne
  obtain ⟨y0, ys', rfl⟩ : ∃ y0 ys', ys = y0 :: ys' := by cases ys with | nil => exact absurd rfl hne | cons a b => exact ⟨a, b, rfl⟩
  have hkk : kk = k := by rw [← h4 y0 (by simp)]; exact hk y0 (by simp)
  subst hkk
  obtain ⟨ab, ao, asp⟩ := a
  simp only at hA hsp h5
  subst hsp
  have get : ∀ m, m < (y0 :: ys').length * kk → ∃ x c, (y0 :: ys')[m / kk]? = some x ∧ x.cells[m % kk]? = some c := by
   intro m hm
   have hk0 : 0 < kk := by rcases Nat.eq_zero_or_pos kk with h | h; simp [h] at hm; exact h
   have hq : m / kk < (y0 :: ys').length := Nat.div_lt_of_lt_mul (by rwa [Nat.mul_comm] at hm)
   have hx : (y0 :: ys')[m / kk]? = some (y0 :: ys')[m / kk] := List.getElem?_eq_getElem hq
   have hcl : (y0 :: ys')[m / kk].cells.length = kk := h4 _ (List.getElem_mem hq)
   exact ⟨_, _, hx, List.getElem?_eq_getElem (by rw [hcl]; exact Nat.mod_lt _ hk0)⟩
  have hl := fun (w2 : World) (hw2 : w2.heap = w.heap) => run_loadCells (P := P) w2 ⟨ab, ao, none⟩ ((y0 :: ys').length * kk) (fun m => f (m / kk) (m % kk)) (fun m hm => by
   obtain ⟨x, c, hx, hc⟩ := get m hm
   have := h5 _ _ _ _ hx hc
   rw [addr_add]
   rw [cell_same (w := w) (w' := w2) (by rw [hw2])]
   rw [Nat.mul_comm, Nat.div_add_mod] at this
   exact this)
  refine ⟨_, cap, _, rfl, by simpa only [Builtin.firstCells] using hl, by simp, h4, fun i x j c hx hc => ⟨f i j, ?_, h6 i x j c hx hc⟩⟩
  have hj : j < kk := by rw [← h4 x (List.mem_of_getElem? hx)]; exact (List.getElem?_eq_some_iff.1 hc).1
  have hi : i < (y0 :: ys').length := (List.getElem?_eq_some_iff.1 hx).1
  have hlt : i * kk + j < (y0 :: ys').length * kk := by have : (i + 1) * kk ≤ (y0 :: ys').length * kk := Nat.mul_le_mul_right _ hi; rw [Nat.add_mul] at this; omega
  rw [List.getElem?_map, List.getElem?_range hlt]
  simp only [Option.map_some]
  have h1 : (i * kk + j) / kk = i := by rw [Nat.add_comm, Nat.add_mul_div_right _ _ (by omega), Nat.div_eq_of_lt hj]; omega
  have h2 : (i * kk + j) % kk = j := by rw [Nat.add_comm, Nat.add_mul_mod_self_right]; exact Nat.mod_eq_of_lt hj
  rw [h1, h2]
theorem arr_of_row {k : Nat} {xs : List PV} {cs zs : List Value} {cap : Nat} {b : Nat} {T : TypeId} (hb : w.heap[b]? = some (.cells (cs ++ zs).toArray T (0, 0))) (h : RowDen A w k xs cs) (hz : (cs ++ zs).length = cap * k) (hx : xs.length ≤ cap) (hc : cap ≤ maxLen) :
  ObjRel A β w b (.arr k xs cap) := by
 obtain ⟨h1, h2, h3⟩ := h
 refine ⟨hx, hc, h2, fun _ => ⟨cs ++ zs, T, (0, 0), hb, hz, by intro j _; simp, fun i x j c hi hj => ?_⟩⟩
 obtain ⟨v, hv, hd⟩ := h3 i x j c hi hj
 exact ⟨v, by rw [List.getElem?_append_left (List.getElem?_eq_some_iff.1 hv).1]; exact hv, hd⟩
theorem RowDen.mono {A' : Nat → Prop} {w' : World} {k : Nat} {xs : List PV} {cs : List Value} (h : RowDen A w k xs cs) (e : Ext A w A' w') : RowDen A' w' k xs cs :=
 ⟨h.1, h.2.1, fun i x j c h1 h2 => by obtain ⟨v, hv, hd⟩ := h.2.2 i x j c h1 h2; exact ⟨v, hv, hd.mono e (.refl _)⟩⟩
theorem op_newarr {K : PV → List PObj → Prop} {k : Nat} {xs : List PV}
  (h : ∀ A w β tmps, Inv Gl B A w β st → EnvRel A w β env tmps → ∃ (w0 : World) (cs zs : List Value) (cap : Nat) (T : TypeId), Inv Gl B A w0 β st ∧ Ext A w A w0 ∧ RowDen A w0 k xs cs ∧ (cs ++ zs).length = cap * k ∧ xs.length ≤ cap ∧ cap ≤ maxLen ∧
   (execOp (⟨tmps.toArray, []⟩ : Act).eval o).run P w = .ok (.value (.slice (some ⟨w0.heap.size, 0, none⟩) xs.length cap)) (w0.alloc (.cells (cs ++ zs).toArray T)) ∧ K (.msl k st.length 0 xs.length cap) (st ++ [.arr k xs cap])) :
  OpP P Gl B o env st K := fun A w β tmps Q hi he => by
 obtain ⟨w0, cs, zs, cap, T, hi0, hE0, hrow, hl, hx, hc, hr, hK⟩ := h A w β tmps hi he
 unfold Oper.wp
 rw [hr]
 have hE := hi0.ext_alloc (.cells (cs ++ zs).toArray T)
 have hlen := hi0.len
 refine ⟨_, _, _, A, β ++ [w0.heap.size], rfl, hK, ?_, hi0.snoc _ _ (arr_of_row (T := T) ?_ (hrow.mono hE) hl hx hc), hE0.trans hE, Pre.snoc _ _⟩
 ·have : Den A (w0.alloc (.cells (cs ++ zs).toArray T)) (β ++ [w0.heap.size]) (.msl k st.length 0 xs.length cap) (.slice (some ⟨w0.heap.size, 0 * k, none⟩) xs.length cap) := .msl _ _ _ _ _ _ _ (by rw [← hlen]; simp)
  rwa [Nat.zero_mul] at this
 ·show (w0.heap.push _)[w0.heap.size]? = _
  simp
theorem Inv.fix (hi : Inv Gl B A w β st) (ob : Obj) : ∃ A', Inv Gl B A' (w.alloc ob) β st ∧ Ext A w A' (w.alloc ob) ∧ A' w.heap.size := by
 have hsz : (w.alloc ob).heap.size = w.heap.size + 1 := by show (w.heap.push ob).size = _; simp
 have hsame : ∀ b, b < w.heap.size → (w.alloc ob).heap[b]? = w.heap[b]? := fun b hb => by
  show (w.heap.push ob)[b]? = _
  rw [Array.getElem?_push, if_neg (by omega)]
 have hE : Ext A w (fun b => A b ∨ b = w.heap.size) (w.alloc ob) := ⟨fun _ h => .inl h, fun b hb => hsame b (hi.lt b hb)⟩
 have hlt : ∀ {i b : Nat}, β[i]? = some b → liveAt st i → b < w.heap.size := fun {i b} hb ⟨o, ho, hl⟩ => (hi.obj i b o hb ho).lt hl
 refine ⟨fun b => A b ∨ b = w.heap.size, ⟨hi.len, hi.inj, fun i b o h1 h2 => ?_, fun i b h1 l1 => ?_, hi.own, fun b hb => ?_, fun b hb => ?_, fun b hb => .inl (hi.old b hb), by rw [hsz]; exact Nat.le_succ_of_le hi.size, hi.os, hi.tape, hi.output, fun b hb hk => ?_, hi.glob, hi.pre, hi.apart⟩, hE, .inr rfl⟩
 ·cases ho : o.live with
  | false => exact (hi.obj i b o h1 h2).still ho
  | true => exact (hi.obj i b o h1 h2).mono hE (.refl _) (hsame b (hlt h1 ⟨o, h2, ho⟩))
 ·rintro (h | h)
  ·exact hi.notA i b h1 l1 h
  ·have := hlt h1 l1; omega
 ·rcases hb with h | h
  ·rw [hsz]; exact Nat.lt_succ_of_lt (hi.lt b h)
  ·omega
 ·rcases hb with h | h
  ·exact hi.new b h
  ·right; right; rw [h]; exact hi.size
 ·rw [hsame b (Nat.lt_of_lt_of_le hb hi.size)]; exact hi.keep b hb hk
theorem op_newfix {K : PV → List PObj → Prop} {k : Nat} {xs : List PV} (hxl : xs.length ≤ maxLen)
  (h : ∀ A w β tmps, Inv Gl B A w β st → EnvRel A w β env tmps → ∃ (cs : List Value) (T : TypeId), RowDen A w k xs cs ∧
   (execOp (⟨tmps.toArray, []⟩ : Act).eval o).run P w = .ok (.value (.slice (some ⟨w.heap.size, 0, none⟩) xs.length xs.length)) (w.alloc (.cells cs.toArray T)))
  (hK : K (.sl xs) st) : OpP P Gl B o env st K := fun A w β tmps Q hi he => by
 obtain ⟨cs, T, hrow, hr⟩ := h A w β tmps hi he
 unfold Oper.wp
 rw [hr]
 obtain ⟨A', hi', hE, hA⟩ := hi.fix (.cells cs.toArray T)
 have hrow' := hrow.mono hE
 obtain ⟨r1, r2, r3⟩ := hrow'
 refine ⟨_, _, _, A', β, rfl, hK, ?_, hi', hE, .refl _⟩
 refine .sl _ k _ _ _ (fun i j => cs.getD (i * k + j) undef) (fun _ => ⟨hA, rfl⟩) (Nat.le_refl _) hxl r2 (fun i x j c hx hc => ?_) (fun i x j c hx hc => ?_)
 ·obtain ⟨v, hv, _⟩ := r3 i x j c hx hc
  simp only [Nat.zero_add, List.getD, hv, Option.getD_some]
  have : (w.alloc (.cells cs.toArray T)).heap[w.heap.size]? = some (.cells cs.toArray T (0, 0)) := by show (w.heap.push _)[w.heap.size]? = _; simp
  rw [obj_cell this]; exact hv
 ·obtain ⟨v, hv, hd⟩ := r3 i x j c hx hc
  simp only [List.getD, hv, Option.getD_some]
  exact hd
def litP (env : List PV) : Nat → List (Nat × Operand) → Option (List PV)
 | _, [] => some []
 | i, (j, x) :: rest => if i = j then (litP env (i + 1) rest).map (pe env x :: ·) else none
theorem lit_sound (k : Nat) (hk : 0 < k) (he : EnvRel A w β env tmps) : ∀ (parts : List (Nat × Operand)) (n : Nat) (done : List Value) (zs : List Value) (xs : List PV), litP env n parts = some xs → done.length = n * k → zs.length = parts.length * k →
  xs.all PV.okPart = true → xs.all (PV.refs (fun _ => false) 5) = true → (∀ x ∈ xs, x.cells.length = k) →
  ∃ cs : List Value, Instr.fill (fun i => some (i * k, k)) (done ++ zs).toArray (parts.map fun p => (p.1, (⟨tmps.toArray, []⟩ : Act).eval p.2)) = some (done ++ cs).toArray ∧ RowDen A w k xs cs
 | [], n, done, zs, xs, hx, hd, hz, _, _, _ => by
  simp only [litP] at hx
  cases hx
  have : zs = [] := List.eq_nil_of_length_eq_zero (by simpa using hz)
  subst this
  exact ⟨[], by simp [Instr.fill], RowDen.nil k⟩
 | (j, x) :: parts, n, done, zs, xs, hx, hd, hz, h1, h2, h3 => by
  simp only [litP] at hx
  split at hx
  ·rename_i hnj
   subst hnj
   cases hl : litP env (n + 1) parts with
   | none => rw [hl] at hx; cases hx
   | some ys =>
    rw [hl] at hx
    cases hx
    simp only [List.all_cons, Bool.and_eq_true] at h1 h2
    obtain ⟨us, hu1, hu2⟩ := RowDen.one (he.eval [] x) h1.1 h2.1 (h3 _ (by simp))
    have hul : us.length = k := by rw [hu2.1]; simp
    simp only [List.length_cons, Nat.add_mul, Nat.one_mul] at hz
    obtain ⟨cs, hc1, hc2⟩ := lit_sound k hk he parts (n + 1) (done ++ us) (zs.drop k) ys hl (by simp [hd, hul, Nat.add_mul]) (by simp [hz]) h1.2 h2.2 (fun y hy => h3 y (by simp [hy]))
    refine ⟨us ++ cs, ?_, by simpa using hu2.append hc2⟩
    simp only [List.map_cons, Instr.fill]
    rw [if_neg (by rw [hu1]; simp [hul, hd, hz]), hu1]
    have hf := fold_set (n * k) us 0 (done ++ zs) (by simp [hd, hul, hz])
    have hsplit : (done ++ zs).take (n * k + 0) ++ us ++ (done ++ zs).drop (n * k + 0 + us.length) = done ++ us ++ zs.drop k := by
     rw [Nat.add_zero, ← hd, List.take_left', List.drop_append, List.drop_eq_nil_of_le (by omega), hul]
     ·simp
     ·rfl
    rw [hsplit] at hf
    have hf' : us.toArray.zipIdx.foldl (fun (cs : Array Value) (x : Value × Nat) => cs.setIfInBounds (n * k + x.2) x.1) (done ++ zs).toArray = (done ++ us ++ zs.drop k).toArray := by
     rw [← hf, ← Array.foldl_toList]; simp
    rw [hf', hc1]
    simp
  ·cases hx
theorem run_buildSlice {T e s b z1 z2 : Nat} {z3 : Option (List PV)} {zl : List PV} {t1 : TK} {e1 e2 : Nat} (hT : Tys P tys) (ht : tys[T]? = some ⟨.sl e s b, z1, z2, z3⟩) (hte : tys[e]? = some ⟨t1, e1, e2, some zl⟩) {len : Nat} {parts : Array (Nat × Operand)} (ho : o.op = .buildSlice T len parts) {xs : List PV}
  (hx : litP env 0 parts.toList = some xs) (hlen : len = parts.toList.length) (hs : 0 < s) (hsz : decide (len * s ≤ 16777216) = true) (h1 : xs.all PV.okPart = true) (h2 : xs.all (PV.refs (fun _ => false) 5) = true) (h3 : xs.all (fun x => x.cells.length == s) = true) (he : EnvRel A w β env tmps) :
  ∃ cs : List Value, xs.length = len ∧ RowDen A w s xs cs ∧ (execOp (⟨tmps.toArray, []⟩ : Act).eval o).run P w = .ok (.value (.slice (some ⟨w.heap.size, 0, none⟩) len len)) (w.alloc (.cells cs.toArray e)) := by
 obtain ⟨ti, d, hi1, hu, htk, _⟩ := tyOf_spec (hT _ _ ht)
 obtain ⟨rfl, hse⟩ := tkOf_sl' htk
 obtain ⟨tie, de, hie, hue, htke, hsze, _, hze⟩ := tyOf_spec (hT _ _ hte)
 have hlx : ∀ (ps : List (Nat × Operand)) (n : Nat) (ys : List PV), litP env n ps = some ys → ys.length = ps.length := by
  intro ps
  induction ps with
  | nil => intro n ys h; simp only [litP] at h; cases h; rfl
  | cons p ps ih =>
   intro n ys h
   obtain ⟨j, x⟩ := p
   simp only [litP] at h
   split at h
   ·cases hl : litP env (n + 1) ps with
    | none => rw [hl] at h; cases h
    | some zs => rw [hl] at h; cases h; simp [ih _ _ hl]
   ·cases h
 have h3' : ∀ x ∈ xs, x.cells.length = s := fun x hx => by simpa using List.all_eq_true.1 h3 x hx
 cases hzv : tie.zero with
 | none => simp only [hzv] at hze; cases hze
 | some zv =>
  have hz : (zeroValue e).run P w = .ok zv w := by simp [zeroValue, run_info hie, hzv]
  obtain ⟨cs, hc1, hc2⟩ := lit_sound (w := w) s hs he parts.toList 0 [] ((List.range (len * s)).map fun i => zv.cells[i % zv.cells.size]!) xs hx (by simp) (by simp [hlen]) h1 h2 h3'
  refine ⟨cs, by rw [hlx _ _ _ hx, hlen], hc2, ?_⟩
  have hsz' : ¬ (len * s > 2 ^ 24) := by have := of_decide_eq_true hsz; omega
  have hp : (parts.map fun x => (x.1, (⟨tmps.toArray, []⟩ : Act).eval x.2)).toList = parts.toList.map fun p => (p.1, (⟨tmps.toArray, []⟩ : Act).eval p.2) := by simp
  simp only [List.nil_append] at hc1
  simp only [execOp, ho, Instr.buildSlice, Sem.run_bind, run_underlying hu, Result.andThen_ok, run_size hse, if_neg hsz', hp]
  by_cases h0 : len * s = 0
  ·have hrow : (Array.range (len * s)).map (fun i => (#[] : Array Value)[i % (#[] : Array Value).size]!) = ((List.range (len * s)).map fun i => zv.cells[i % zv.cells.size]!).toArray := by simp [h0]
   rw [if_pos h0]
   simp only [Sem.run_bind, Sem.run_pure, Result.andThen_ok, hrow, hc1]
   simp [newRow]
  ·have hrow : (Array.range (len * s)).map (fun i => zv.cells[i % zv.cells.size]!) = ((List.range (len * s)).map fun i => zv.cells[i % zv.cells.size]!).toArray := by
    apply Array.ext'
    simp
   rw [if_neg h0]
   simp only [Sem.run_bind, Sem.run_pure, Result.andThen_ok, hz, hrow, hc1]
   simp [newRow]
theorem op_lit {K : PV → List PObj → Prop} {T e s b z1 z2 : Nat} {z3 : Option (List PV)} {zl : List PV} {t1 : TK} {e1 e2 : Nat} {len : Nat} {parts : Array (Nat × Operand)} {xs : List PV} (hT : Tys P tys) (ho : o.op = .buildSlice T len parts) (ht : tys[T]? = some ⟨.sl e s b, z1, z2, z3⟩) (hte : tys[e]? = some ⟨t1, e1, e2, some zl⟩)
  (hx : litP env 0 parts.toList = some xs) (hlen : len = parts.toList.length) (hs : 0 < s) (hsz : decide (len * s ≤ 16777216) = true) (h1 : xs.all PV.okPart = true) (h2 : xs.all (PV.refs (fun _ => false) 5) = true) (h3 : xs.all (fun x => x.cells.length == s) = true)
  (hK : K (.sl xs) st) : OpP P Gl B o env st K := by
 have hsz' := of_decide_eq_true hsz
 have hb : len ≤ maxLen := by
  have : len * 1 ≤ len * s := Nat.mul_le_mul_left _ hs
  unfold maxLen; omega
 have hle : xs.length ≤ maxLen := by
  by_cases hne : ∃ A w β tmps, Inv Gl B A w β st ∧ EnvRel A w β env tmps
  ·obtain ⟨A, w, β, tmps, _, he⟩ := hne
   obtain ⟨cs, hl, _⟩ := run_buildSlice (P := P) (w := w) hT ht hte ho hx hlen hs hsz h1 h2 h3 he
   omega
  ·have hl : ∀ (ps : List (Nat × Operand)) (n : Nat) (ys : List PV), litP env n ps = some ys → ys.length = ps.length := by
    intro ps
    induction ps with
    | nil => intro n ys h; simp only [litP] at h; cases h; rfl
    | cons p ps ih =>
     intro n ys h
     obtain ⟨j, x⟩ := p
     simp only [litP] at h
     split at h
     ·cases hl : litP env (n + 1) ps with
      | none => rw [hl] at h; cases h
      | some zs => rw [hl] at h; cases h; simp [ih _ _ hl]
     ·cases h
   rw [hl _ _ _ hx]; omega
 refine op_newfix (k := s) hle (fun A w β tmps hi he => ?_) hK
 obtain ⟨cs, hl, hrow, hr⟩ := run_buildSlice (P := P) (w := w) hT ht hte ho hx hlen hs hsz h1 h2 h3 he
 exact ⟨cs, e, hrow, by rw [hl]; exact hr⟩
end rules
end Go.Pw
namespace Go.Pw
open Go
section rules
variable {P : Program} {Gl : Glob} {B : Base} {tys : List TI} {env : List PV} {st : List PObj} {ops : Array Oper} {rest : List Oper} {o : Oper} {Q : Post}
 {A : Nat → Prop} {w : World} {β : List Nat} {tmps : List Value}
theorem StLe.kill (st : List PObj) (i : Nat) : StLe st (st.set i .dead) := by
 induction st generalizing i with
 | nil => trivial
 | cons x xs ih =>
  cases i with
  | zero => exact ⟨.inr (.inl rfl), StLe.refl xs⟩
  | succ i => exact ⟨.inl rfl, ih i⟩
theorem liveAt_kill {i j : Nat} (h : liveAt (st.set i .dead) j) : liveAt st j ∧ j ≠ i := by
 obtain ⟨o, h1, h2⟩ := h
 rw [List.getElem?_set] at h1
 split at h1
 ·split at h1
  ·cases h1; cases h2
  ·cases h1
 ·rename_i hij
  exact ⟨⟨o, h1, h2⟩, fun e => hij e.symm⟩
theorem Inv.move (hi : Inv Gl B A w β st) {i b : Nat} {x y : PObj} (hb : β[i]? = some b) (hx : st[i]? = some x) (hxl : x.live = true) (hy : ObjRel A (β ++ [b]) w b y) : Inv Gl B A w (β ++ [b]) (st.set i .dead ++ [y]) := by
 have hlen := hi.len
 have hil : i < st.length := (List.getElem?_eq_some_iff.1 hx).1
 have hget : ∀ {j c : Nat}, (β ++ [b])[j]? = some c → liveAt (st.set i .dead ++ [y]) j → (j ≠ i ∧ j < st.length ∧ β[j]? = some c ∧ liveAt st j) ∨ (j = st.length ∧ c = b) := by
  intro j c h l
  by_cases hj : j < st.length
  ·left
   rw [List.getElem?_append_left (by omega)] at h
   have := liveAt_kill (liveAt_snoc l (by simpa using hj))
   exact ⟨this.2, hj, h, this.1⟩
  ·right
   rw [List.getElem?_append_right (by omega)] at h
   have : j - β.length = 0 := by
    cases hk : j - β.length with
    | zero => rfl
    | succ n => rw [hk] at h; simp at h
   rw [this] at h
   simp at h
   exact ⟨by omega, h.symm⟩
 refine ⟨by simp [hlen], ?_, ?_, ?_, ?_, hi.lt, hi.new, hi.old, hi.size, hi.os, hi.tape, hi.output, hi.keep, hi.glob, fun j c h1 h2 => Pre.snoc _ _ _ _ (hi.pre j c h1 h2), hi.apart⟩
 ·intro j k c h1 h2 l1 l2
  rcases hget h1 l1 with ⟨n1, m1, b1, v1⟩ | ⟨n1, b1⟩ <;> rcases hget h2 l2 with ⟨n2, m2, b2, v2⟩ | ⟨n2, b2⟩
  ·exact hi.inj j k c b1 b2 v1 v2
  ·subst b2; exact (n1 (hi.inj j i _ b1 hb v1 ⟨x, hx, hxl⟩)).elim
  ·subst b1; exact (n2 (hi.inj k i _ b2 hb v2 ⟨x, hx, hxl⟩)).elim
  ·omega
 ·intro j c ob h1 h2
  by_cases hj : j < st.length
  ·rw [List.getElem?_append_left (by simpa using hj), List.getElem?_set] at h2
   rw [List.getElem?_append_left (by omega)] at h1
   split at h2
   ·cases h2; trivial
   ·exact (hi.obj j c ob h1 h2).mono (.refl _ _) (Pre.snoc _ _) rfl
  ·have hj' : j = st.length := by
    have := (List.getElem?_eq_some_iff.1 h2).1
    simp at this; omega
   subst hj'
   rw [List.getElem?_append_right (by simp)] at h2
   rw [List.getElem?_append_right (by omega)] at h1
   simp [hlen] at h1 h2
   subst h1 h2
   exact hy
 ·intro j c h1 l1
  rcases hget h1 l1 with ⟨n1, m1, b1, v1⟩ | ⟨n1, b1⟩
  ·exact hi.notA j c b1 v1
  ·subst b1; exact hi.notA i _ hb ⟨x, hx, hxl⟩
 ·intro j c h1 l1
  rcases hget h1 l1 with ⟨n1, m1, b1, v1⟩ | ⟨n1, b1⟩
  ·exact hi.own j c b1 v1
  ·subst b1; exact hi.own i _ hb ⟨x, hx, hxl⟩
theorem RowDen.cells {k : Nat} {xs : List PV} {cs : List Value} (h : RowDen A w k xs cs) (h1 : xs.all (fun x => x.cells.all PV.one) = true) : ∀ u ∈ cs, u.oneCell' = true := by
 intro u hu
 obtain ⟨m, hm⟩ := List.mem_iff_getElem?.1 hu
 obtain ⟨r1, r2, r3⟩ := h
 have hlt := (List.getElem?_eq_some_iff.1 hm).1
 rw [r1] at hlt
 have hk : 0 < k := by rcases Nat.eq_zero_or_pos k with h | h; simp [h] at hlt; exact h
 have hq : m / k < xs.length := Nat.div_lt_of_lt_mul (by rwa [Nat.mul_comm] at hlt)
 have hx : xs[m / k]? = some xs[m / k] := List.getElem?_eq_getElem hq
 have hcl : xs[m / k].cells.length = k := r2 _ (List.getElem_mem hq)
 have hc : xs[m / k].cells[m % k]? = some (xs[m / k].cells[m % k]'(by rw [hcl]; exact Nat.mod_lt _ hk)) := List.getElem?_eq_getElem _
 obtain ⟨v, hv, hd⟩ := r3 _ _ _ _ hx hc
 rw [Nat.mul_comm, Nat.div_add_mod, hm] at hv
 cases hv
 exact one_cell hd (List.all_eq_true.1 (List.all_eq_true.1 h1 _ (List.getElem_mem hq)) _ (List.getElem_mem _))
theorem cap_cut (need old e t : Nat) (h : need ≤ maxLen) : need ≤ (Question.appendCap need old e).cut t ∧ (Question.appendCap need old e).cut t ≤ maxLen := by
 simp only [Question.cut]
 unfold maxLen at h ⊢
 have := Nat.mod_lt t (show 2 ^ 63 - need > 0 by omega)
 omega
theorem run_grow {T T2 e e2 : TypeId} {s b : Nat} {tie : TypeInfo} {zv : Value} (hu : P.underlying T = some (.slice e)) (hu2 : P.underlying T2 = some (.slice e2)) (hie : P.info? e = some tie) (hs : tie.size = s) (hb : tie.bytes = b) (hz : tie.zero = some zv) (hby : 0 < b)
  {base : Option Addr} {n cap : Nat} {v : Value} {m : Nat} {old new : List Value} (hm : (Builtin.lenOf v).run P w = .ok m w) (hold : ∀ w2 : World, w2.heap = w.heap → (Builtin.firstCells s n (.slice base n cap)).run P w2 = .ok old.toArray w2)
  (hnew : ∀ w2 : World, w2.heap = w.heap → (Builtin.firstCells s m v).run P w2 = .ok new.toArray w2) (hg : cap < n + m) (hbd : (n + m) * b ≤ 140737488355328) (ty : TypeId) :
  (Builtin.append_ #[T, T2] ty #[.slice base n cap, v]).run P w = .ok (.slice (some ⟨w.heap.size, 0, none⟩) (n + m) ((Question.appendCap (n + m) cap e).cut (w.tape w.drawn (Question.appendCap (n + m) cap e))))
   (({ w with drawn := w.drawn + 1 } : World).alloc (.cells (old ++ (new ++ (Builtin.zeroCells zv.cells ((Question.appendCap (n + m) cap e).cut (w.tape w.drawn (Question.appendCap (n + m) cap e)) - (n + m))).toList)).toArray e)) := by
 have hzr : ∀ w', (zeroValue e).run P w' = .ok zv w' := fun w' => by simp [zeroValue, run_info hie, hz]
 have hir : ∀ w', (typeInfo e).run P w' = .ok tie w' := fun w' => run_info hie w'
 have hsr : ∀ w', (sizeOf e).run P w' = .ok s w' := fun w' => run_size (by simp [szOf, hie, hs]) w'
 have hfits : ¬ (Builtin.nextslicecap (n + m) cap * tie.bytes > 2 ^ 48) := by
  have := growslice_fits (need := n + m) (old := cap) (bytes := b) hg hbd
  rw [hb]; omega
 have hbz : ¬ tie.bytes = 0 := by omega
 have hfo : (Question.appendCap (n + m) cap e).forced = false := rfl
 simp only [Builtin.append_, List.getElem?_toArray, List.getElem?_cons_zero, List.getElem?_cons_succ, Sem.run_bind, run_underlying hu, run_underlying hu2, Result.andThen_ok, hsr, Sem.run_pure, Bool.false_eq_true, if_false, hm]
 rw [if_neg (by omega)]
 simp only [Sem.run_bind, hir, Result.andThen_ok, hbz]
 rw [if_neg (by simp)]
 simp only [Sem.run_bind, hir, Result.andThen_ok]
 rw [if_neg hfits]
 simp only [Sem.run_bind, run_choose, hfo, Bool.false_eq_true, if_false, Result.andThen_ok, hir, run_askRoom, hold { w with drawn := w.drawn + 1 } rfl, hnew { w with drawn := w.drawn + 1 } rfl, hzr, Bool.not_false, if_true]
 simp [newRow]
 congr 2
 apply Array.ext'
 simp
theorem run_fit {T T2 e e2 : TypeId} {s : Nat} (hu : P.underlying T = some (.slice e)) (hu2 : P.underlying T2 = some (.slice e2)) (hs : szOf P e = some s)
  {a : Addr} {n cap : Nat} {v : Value} {m : Nat} {new : List Value} (hm : (Builtin.lenOf v).run P w = .ok m w) (hnew : (Builtin.firstCells s m v).run P w = .ok new.toArray w) (hg : n + m ≤ cap) (ty : TypeId) {w' : World}
  (hst : (storeCells (a.add (n * s)) new).run P w = .ok () w') : (Builtin.append_ #[T, T2] ty #[.slice (some a) n cap, v]).run P w = .ok (.slice (some a) (n + m) cap) w' := by
 simp only [Builtin.append_, List.getElem?_toArray, List.getElem?_cons_zero, List.getElem?_cons_succ, Sem.run_bind, run_underlying hu, run_underlying hu2, Result.andThen_ok, run_size hs, Sem.run_pure, Bool.false_eq_true, if_false, hm]
 rw [if_pos hg]
 simp only [Sem.run_bind, hnew, Result.andThen_ok, Bool.not_false, if_true, hst, Sem.run_pure]
theorem run_callb {T T2 : TypeId} {x y : Operand} {ρ : Operand → Value} {r : Result Value} (ho : o.op = .call ⟨.builtin .append, #[x, y], #[T, T2]⟩) (h : (Builtin.append_ #[T, T2] o.type #[ρ x, ρ y]).run P w = r) :
  (execOp ρ o).run P w = r.andThen fun v w' => .ok (.value v) w' := by
 simp only [execOp, ho, Go.resolve, Sem.run_bind, Sem.run_pure, Result.andThen_ok, invoke, builtin]
 have hm : #[x, y].map ρ = #[ρ x, ρ y] := by simp
 rw [hm, h]
structure AppTy (P : Program) (T T2 : TypeId) (s b : Nat) (e : TypeId) (tie : TypeInfo) (zv : Value) : Prop where
 u : P.underlying T = some (.slice e)
 u2 : ∃ e2, P.underlying T2 = some (.slice e2)
 i : P.info? e = some tie
 sz : tie.size = s
 by' : tie.bytes = b
 z : tie.zero = some zv
 zs : zv.cells.size = s
def appOk (tys : List TI) (T T2 s b : Nat) : Bool :=
 match tys[T]?, tys[T2]? with
 | some ⟨.sl e s' b', _, _, _⟩, some ⟨.sl _ _ _, _, _, _⟩ => s' == s && b' == b && decide (0 < b) && (match tys[e]? with | some ⟨_, _, _, some zl⟩ => zl.length == s | _ => false)
 | _, _ => false
theorem appOk_spec (hT : Tys P tys) {T T2 s b : Nat} (h : appOk tys T T2 s b = true) : ∃ e tie zv, AppTy P T T2 s b e tie zv ∧ 0 < b := by
 unfold appOk at h
 split at h
 ·rename_i e s' b' z1 z2 z3 e2 s2 b2 y1 y2 y3 ht ht2
  simp only [Bool.and_eq_true, beq_iff_eq, decide_eq_true_eq] at h
  obtain ⟨⟨⟨rfl, rfl⟩, hb⟩, h4⟩ := h
  split at h4
  ·rename_i t1 e1 e2' zl hte
   obtain ⟨ti, d, hi1, hu, htk, _⟩ := tyOf_spec (hT _ _ ht)
   obtain ⟨rfl, tie, hie, hse, hbe⟩ := tkOf_sl htk
   obtain ⟨tie', de, hie', hue, htke, hsze, _, hze⟩ := tyOf_spec (hT _ _ hte)
   rw [hie] at hie'
   cases hie'
   obtain ⟨ti2', d2, _, hu2, htk2, _⟩ := tyOf_spec (hT _ _ ht2)
   obtain ⟨rfl, _⟩ := tkOf_sl htk2
   cases hzv : tie.zero with
   | none => simp only [hzv] at hze; cases hze
   | some zv =>
    refine ⟨e, tie, zv, ⟨hu, ⟨_, hu2⟩, hie, hse, hbe, hzv, ?_⟩, hb⟩
    simp only [hzv, zeroOf, Option.some.injEq] at hze
    have : zl.length = s' := by simpa using h4
    rw [← this, hze]; simp
  ·cases h4
 ·cases h
theorem zeroCells_len (zv : Value) (n : Nat) : (Builtin.zeroCells zv.cells n).toList.length = n * zv.cells.size := by simp [Builtin.zeroCells]
theorem run_firstm {k : Nat} {xs : List PV} {cap b : Nat} (h : ObjRel A β w b (.arr k xs cap)) (hne : cap ≠ 0) (c : Nat) : ∃ cs : List Value, (∀ w2 : World, w2.heap = w.heap → (Builtin.firstCells k xs.length (.slice (some ⟨b, 0, none⟩) xs.length c)).run P w2 = .ok cs.toArray w2) ∧ RowDen A w k xs cs := by
 obtain ⟨h4, h5, h6, h0⟩ := h
 obtain ⟨vs, T, fr, h1, h2, h3, h7⟩ := h0 hne
 have hle : xs.length * k ≤ cap * k := Nat.mul_le_mul_right _ h4
 refine ⟨vs.take (xs.length * k), fun w2 hw2 => ?_, by simp; omega, h6, fun i x j c hx hc => ?_⟩
 ·have hl := run_loadCells_list (P := P) w2 ⟨b, 0, none⟩ (vs.take (xs.length * k)) (fun j v hj => by
   rw [addr_add, Nat.zero_add, cell_same (w := w) (w' := w2) (by rw [hw2]), obj_cell h1]
   rw [List.getElem?_take] at hj
   split at hj
   ·exact hj
   ·cases hj)
  have hlen : (vs.take (xs.length * k)).length = xs.length * k := by simp; omega
  rw [hlen] at hl
  simpa only [Builtin.firstCells] using hl
 ·obtain ⟨v, hv, hd⟩ := h7 i x j c hx hc
  refine ⟨v, ?_, hd⟩
  have hj : j < k := by rw [← h6 x (List.mem_of_getElem? hx)]; exact (List.getElem?_eq_some_iff.1 hc).1
  have hi : i < xs.length := (List.getElem?_eq_some_iff.1 hx).1
  have : (i + 1) * k ≤ xs.length * k := Nat.mul_le_mul_right _ hi
  rw [Nat.add_mul] at this
  rw [List.getElem?_take, if_pos (by omega)]; exact hv
theorem op_append {K : PV → List PObj → Prop} {T T2 s b i n cap : Nat} {x y : Operand} {xs ys : List PV} (hT : Tys P tys) (ho : o.op = .call ⟨.builtin .append, #[x, y], #[T, T2]⟩) (hk : appOk tys T T2 s b = true) (hx : pe env x = .msl s i 0 n cap) (hst : st[i]? = some (.arr s xs cap)) (hn : n = xs.length) (hy : pe env y = .sl ys)
  (hpos : 0 < ys.length ∨ cap ≠ 0) (hs : ys.all (fun y => y.cells.length == s) = true) (hon : ys.all (fun y => y.cells.all PV.one) = true) (hbd : (xs.length + ys.length) * b ≤ 140737488355328) (hK : ∀ cap', xs.length + ys.length ≤ cap' → cap' ≠ 0 → K (.msl s st.length 0 (xs.length + ys.length) cap') (st.set i .dead ++ [.arr s (xs ++ ys) cap'])) : OpP P Gl B o env st K := by
 obtain ⟨e, tie, zv, ⟨hu, ⟨e2, hu2⟩, hie, hse, hbe, hzv, hzs⟩, hb0⟩ := appOk_spec hT hk
 have hs' : ∀ y ∈ ys, y.cells.length = s := fun y hy => by simpa using List.all_eq_true.1 hs y hy
 subst hn
 intro A w β tmps Q hi he
 have hdx := he.eval [] x
 have hdy := he.eval [] y
 rw [hx] at hdx
 rw [hy] at hdy
 obtain ⟨a, cap2, cs, hv, hf, hrow⟩ := run_first (P := P) hdy hs'
 have hlen := hi.len
 have hil : i < st.length := (List.getElem?_eq_some_iff.1 hst).1
 have hbb : β[i]? = some (β[i]'(by omega)) := List.getElem?_eq_getElem (by omega)
 generalize (β[i]'(by omega)) = bb at hbb
 have hobj := hi.obj i bb _ hbb hst
 have hlenv : (Builtin.lenOf ((⟨tmps.toArray, []⟩ : Act).eval y)).run P w = .ok ys.length w := by rw [hv]; rfl
 have hml : xs.length + ys.length ≤ maxLen := by
  have : (xs.length + ys.length) * 1 ≤ (xs.length + ys.length) * b := Nat.mul_le_mul_left _ hb0
  unfold maxLen; omega
 have hxc : xs.length ≤ cap := hobj.1
 unfold Oper.wp
 by_cases hfit : xs.length + ys.length ≤ cap
 ·have hne : cap ≠ 0 := by omega
  obtain ⟨b', hb', hvx⟩ := hdx.msl_inv hne
  rw [hbb] at hb'
  cases hb'
  rw [Nat.zero_mul] at hvx
  have hlive : PObj.live (.arr s xs cap) = true := by cases cap with | zero => exact (hne rfl).elim | succ c => rfl
  have hlive2 : PObj.live (.arr s (xs ++ ys) cap) = true := by cases cap with | zero => exact (hne rfl).elim | succ c => rfl
  obtain ⟨h4, h5, h6, h0⟩ := id hobj
  obtain ⟨vs, T', fr, h1, h2, h3, h7⟩ := h0 hne
  have hcsl : cs.length = ys.length * s := hrow.1
  have hone : ∀ u ∈ cs, u.oneCell' = true := hrow.cells hon
  have hle : xs.length * s + ys.length * s ≤ cap * s := by rw [← Nat.add_mul]; exact Nat.mul_le_mul_right _ hfit
  obtain ⟨w', r1, r2, r3, r4, r5, r6, r7⟩ := run_storeCells (P := P) bb T' fr cs 0 (xs.length * s) vs w h1 (by omega) hone (by rw [h2]; exact h3)
  have hE : Ext A w A w' := ⟨fun _ h => h, fun k hkk => r6 k (fun e => hi.notA i bb hbb ⟨_, hst, hlive⟩ (e ▸ hkk))⟩
  have hx' : ObjRel A β w' bb (.arr s (xs ++ ys) cap) := by
   refine ⟨by simpa using hfit, h5, fun z hz => by rcases List.mem_append.1 hz with hz | hz; exact h6 z hz; exact hs' z hz, fun _ => ⟨_, T', fr, r7, by simp; omega, h3, fun ii z j c hz hc => ?_⟩⟩
   have hjs : j < s := by
    have : z.cells.length = s := by rcases List.mem_append.1 (List.mem_of_getElem? hz) with hz | hz; exact h6 z hz; exact hs' z hz
    rw [← this]; exact (List.getElem?_eq_some_iff.1 hc).1
   rw [Nat.add_zero]
   by_cases hii : ii < xs.length
   ·rw [List.getElem?_append_left hii] at hz
    obtain ⟨v, hv, hd⟩ := h7 ii z j c hz hc
    have : (ii + 1) * s ≤ xs.length * s := Nat.mul_le_mul_right _ hii
    rw [Nat.add_mul] at this
    refine ⟨v, ?_, hd.mono hE (.refl _)⟩
    rw [List.append_assoc, List.getElem?_append_left (by simp; omega), List.getElem?_take, if_pos (by omega)]
    exact hv
   ·rw [List.getElem?_append_right (by omega)] at hz
    obtain ⟨v, hv, hd⟩ := hrow.2.2 _ z j c hz hc
    have hik : ii * s = xs.length * s + (ii - xs.length) * s := by rw [← Nat.add_mul]; congr 1; omega
    have hlt := (List.getElem?_eq_some_iff.1 hv).1
    refine ⟨v, ?_, hd.mono hE (.refl _)⟩
    rw [List.getElem?_append_left (by simp; omega), List.getElem?_append_right (by simp; omega)]
    rw [← hv]
    congr 1
    simp; omega
  obtain ⟨hi', hE'⟩ := hi.write hbb hst hlive r2 r3 r4 r5 r6 hx'
  have hmv := hi'.move (i := i) (b := bb) (x := .arr s (xs ++ ys) cap) (y := .arr s (xs ++ ys) cap) hbb (by rw [List.getElem?_set_self hil]) hlive2 (hx'.mono (.refl _ _) (Pre.snoc _ _) rfl)
  rw [List.set_set] at hmv
  have hrun := run_fit (P := P) (w := w) hu hu2 (by simp [szOf, hie, hse]) (a := ⟨bb, 0, none⟩) (n := xs.length) (cap := cap) hlenv (hf w rfl) hfit o.type (w' := w') (by rw [addr_add, Nat.zero_add]; exact r1)
  rw [run_callb (o := o) ho rfl, hvx, hrun]
  refine ⟨_, _, _, A, β ++ [bb], rfl, hK cap hfit hne, ?_, hmv, hE', Pre.snoc _ _⟩
  have : Den A w' (β ++ [bb]) (.msl s st.length 0 (xs.length + ys.length) cap) (.slice (some ⟨bb, 0 * s, none⟩) (xs.length + ys.length) cap) := .msl _ _ _ _ _ _ _ (by rw [← hlen]; simp)
  rwa [Nat.zero_mul] at this
 ·have hold : ∃ (base : Option Addr) (old : List Value), (⟨tmps.toArray, []⟩ : Act).eval x = .slice base xs.length cap ∧ (∀ w2 : World, w2.heap = w.heap → (Builtin.firstCells s xs.length (.slice base xs.length cap)).run P w2 = .ok old.toArray w2) ∧ RowDen A w s xs old := by
   by_cases hne : cap = 0
   ·subst hne
    have : xs = [] := List.eq_nil_of_length_eq_zero (by omega)
    subst this
    obtain ⟨a, ha⟩ := hdx.msl_any
    refine ⟨a, [], ha, fun w2 _ => ?_, RowDen.nil s⟩
    cases a <;> simp [Builtin.firstCells, loadCells, loadCellsFrom]
   ·obtain ⟨b', hb', hvx⟩ := hdx.msl_inv hne
    rw [hbb] at hb'
    cases hb'
    rw [Nat.zero_mul] at hvx
    obtain ⟨old, h1, h2⟩ := run_firstm (P := P) hobj hne cap
    exact ⟨_, old, hvx, h1, h2⟩
  obtain ⟨base, old, hvx, hold, hrow0⟩ := hold
  have hg := run_grow (P := P) (w := w) hu hu2 hie hse hbe hzv hb0 (base := base) (n := xs.length) (cap := cap) (v := (⟨tmps.toArray, []⟩ : Act).eval y) (m := ys.length) (old := old) (new := cs) hlenv hold hf (by omega) hbd o.type
  obtain ⟨hc1, hc2⟩ := cap_cut (xs.length + ys.length) cap e (w.tape w.drawn (Question.appendCap (xs.length + ys.length) cap e)) hml
  generalize (Question.appendCap (xs.length + ys.length) cap e).cut (w.tape w.drawn (Question.appendCap (xs.length + ys.length) cap e)) = cap' at *
  rw [run_callb (o := o) ho rfl, hvx, hg]
  have hE : Ext A w A { w with drawn := w.drawn + 1 } := ⟨fun _ h => h, fun _ _ => rfl⟩
  have hi1 := (hi.weaken (StLe.kill st i)).drew
  have hE2 := hi1.ext_alloc (.cells (old ++ (cs ++ (Builtin.zeroCells zv.cells (cap' - (xs.length + ys.length))).toList)).toArray e)
  refine ⟨_, _, _, A, β ++ [w.heap.size], rfl, hK cap' hc1 (by omega), ?_, hi1.snoc _ _ (arr_of_row (T := e) (cs := old ++ cs) (zs := (Builtin.zeroCells zv.cells (cap' - (xs.length + ys.length))).toList) ?_ (((hrow0.append hrow).mono hE).mono hE2) ?_ (by simpa using hc1) hc2), hE.trans hE2, Pre.snoc _ _⟩
  ·have : Den A (({ w with drawn := w.drawn + 1 } : World).alloc (.cells (old ++ (cs ++ (Builtin.zeroCells zv.cells (cap' - (xs.length + ys.length))).toList)).toArray e)) (β ++ [w.heap.size]) (.msl s st.length 0 (xs.length + ys.length) cap') (.slice (some ⟨w.heap.size, 0 * s, none⟩) (xs.length + ys.length) cap') := .msl _ _ _ _ _ _ _ (by rw [← hlen]; simp)
   rwa [Nat.zero_mul] at this
  ·show (w.heap.push _)[w.heap.size]? = _
   simp
  ·rw [List.length_append, List.length_append, zeroCells_len, hrow0.1, hrow.1, hzs, ← Nat.add_mul, ← Nat.add_mul]
   congr 1
   omega
def wipe (d : Nat → Bool) (p : PV) : PV := match p.refs d 5 with | true => p | false => .any
def PObj.wipe (d : Nat → Bool) : PObj → PObj
 | .box cs => .box (cs.map (Pw.wipe d))
 | .map es => .map (es.map fun e => (e.1, Pw.wipe d e.2))
 | .kmap es c => .kmap (es.map fun e => (e.1, e.2.1, Pw.wipe d e.2.2)) c
 | .iter m s l c => .iter (m.bind fun m => match d m with | true => some m | false => none) s l c
 | o => o
def dOf (st : List PObj) (i : Nat) : Bool := ((st[i]?).map PObj.stays).getD false
theorem Den.wipe {d : Nat → Bool} {β' : List Nat} (hr : ∀ (i b : Nat), d i = true → β[i]? = some b → β'[i]? = some b) {p : PV} {v : Value} (h : Den A w β p v) : Den A w β' (Pw.wipe d p) v := by
 unfold Pw.wipe
 split
 ·rename_i hp
  have := h.ren (β' := β') (d := d) (r := fun i => i) hr 5 hp
  rwa [PV.ren_id] at this
 ·exact .any ..
theorem PObj.wipe_live (d : Nat → Bool) (o : PObj) : (o.wipe d).live = o.live := by cases o <;> rfl
theorem Inv.back {β2 : List Nat} {i L b : Nat} {x : PObj} (hi : Inv Gl B A w β2 (st ++ [x])) (hL : st.length = L) (hil : i < L) (_hdead : ∀ y, st[i]? = some y → y.live = false) (hb : β2[L]? = some b) (hx : ∀ d, x.wipe d = x) (hx' : ∀ β', ObjRel A β2 w b x → ObjRel A β' w b x) (hB : ∀ j, B.D j = true → j < L ∧ j ≠ i) :
  Inv Gl B A w ((β2.take L).set i b) ((st.map (PObj.wipe fun j => decide (j < L) && j != i)).set i x) := by
 have hlen : β2.length = L + 1 := by rw [hi.len]; simp [hL]
 have hg : ∀ {j c : Nat}, ((β2.take L).set i b)[j]? = some c → (j = i ∧ c = b) ∨ (j ≠ i ∧ j < L ∧ β2[j]? = some c) := by
  intro j c h
  rw [List.getElem?_set] at h
  split at h
  ·rename_i e
   split at h
   ·cases h; exact .inl ⟨e.symm, rfl⟩
   ·cases h
  ·rename_i e
   rw [List.getElem?_take] at h
   split at h
   ·exact .inr ⟨fun h => e h.symm, by assumption, h⟩
   ·cases h
 have hs : ∀ {j : Nat} {o : PObj}, ((st.map (PObj.wipe fun j => decide (j < L) && j != i)).set i x)[j]? = some o → (j = i ∧ o = x) ∨ (j ≠ i ∧ j < L ∧ ∃ y, (st ++ [x])[j]? = some y ∧ o = y.wipe fun j => decide (j < L) && j != i) := by
  intro j o h
  rw [List.getElem?_set] at h
  split at h
  ·rename_i e
   split at h
   ·cases h; exact .inl ⟨e.symm, rfl⟩
   ·cases h
  ·rename_i e
   rw [List.getElem?_map] at h
   cases hy : st[j]? with
   | none => rw [hy] at h; cases h
   | some y =>
    rw [hy] at h
    cases h
    have hj := (List.getElem?_eq_some_iff.1 hy).1
    exact .inr ⟨fun h => e h.symm, by omega, y, by rw [List.getElem?_append_left hj]; exact hy, rfl⟩
 have hxL : (st ++ [x])[L]? = some x := by rw [← hL]; simp
 have lv : ∀ {j c : Nat}, ((β2.take L).set i b)[j]? = some c → liveAt ((st.map (PObj.wipe fun j => decide (j < L) && j != i)).set i x) j → ∃ k, β2[k]? = some c ∧ liveAt (st ++ [x]) k ∧ ((j = i ∧ k = L) ∨ (j ≠ i ∧ k = j ∧ j < L)) := by
  intro j c h ⟨o, ho, hl⟩
  rcases hg h with ⟨e1, e2⟩ | ⟨e1, e2, e3⟩ <;> rcases hs ho with ⟨f1, f2⟩ | ⟨f1, f2, y, f3, f4⟩
  ·subst e2 f2; exact ⟨L, hb, ⟨_, hxL, hl⟩, .inl ⟨e1, rfl⟩⟩
  ·exact (f1 e1).elim
  ·exact (e1 f1).elim
  ·subst f4; rw [PObj.wipe_live] at hl; exact ⟨j, e3, ⟨y, f3, hl⟩, .inr ⟨e1, rfl, e2⟩⟩
 refine ⟨by simp [hL, hlen], ?_, ?_, ?_, ?_, hi.lt, hi.new, hi.old, hi.size, hi.os, hi.tape, hi.output, hi.keep, hi.glob, ?_, hi.apart⟩
 ·intro j k c h1 h2 l1 l2
  obtain ⟨j', b1, v1, e1⟩ := lv h1 l1
  obtain ⟨k', b2, v2, e2⟩ := lv h2 l2
  have := hi.inj j' k' c b1 b2 v1 v2
  omega
 ·intro j c o h1 h2
  rcases hg h1 with ⟨e1, e2⟩ | ⟨e1, e2, e3⟩ <;> rcases hs h2 with ⟨f1, f2⟩ | ⟨f1, f2, y, f3, f4⟩
  ·subst e2 f2; exact hx' _ (hi.obj L _ _ hb hxL)
  ·exact (f1 e1).elim
  ·exact (e1 f1).elim
  ·subst f4
   have ho := hi.obj j c y e3 f3
   have hr : ∀ (k b' : Nat), (decide (k < L) && k != i) = true → β2[k]? = some b' → ((β2.take L).set i b)[k]? = some b' := by
    intro k b' hk hb'
    simp only [Bool.and_eq_true, decide_eq_true_eq, bne_iff_ne, ne_eq] at hk
    rw [List.getElem?_set, if_neg (fun e => hk.2 e.symm), List.getElem?_take, if_pos hk.1]; exact hb'
   cases y with
   | dead => trivial
   | box cs =>
    obtain ⟨vs, T, fr, g1, g2, g3, g4⟩ := ho
    refine ⟨vs, T, fr, g1, by simpa using g2, by simpa using g3, fun m c v hc hv => ?_⟩
    rw [List.getElem?_map] at hc
    cases hz : cs[m]? with
    | none => rw [hz] at hc; cases hc
    | some z => rw [hz] at hc; cases hc; exact (g4 m z v hz hv).wipe hr
   | arr k xs cap => exact ho
   | map es =>
    obtain ⟨mes, cl, g1, g2, g3⟩ := ho
    refine ⟨mes, cl, g1, by simpa using g2, fun m kk v hm => ?_⟩
    rw [List.getElem?_map] at hm
    cases hz : es[m]? with
    | none => rw [hz] at hm; cases hm
    | some z =>
     rw [hz] at hm
     cases hm
     obtain ⟨e, q1, q2, q3⟩ := g3 m z.1 z.2 hz
     exact ⟨e, q1, q2, q3.wipe hr⟩
   | kmap es cl =>
    obtain ⟨mes, g1, g2, g3⟩ := ho
    refine ⟨mes, g1, by simpa using g2, fun m bn kk v hm => ?_⟩
    rw [List.getElem?_map] at hm
    cases hz : es[m]? with
    | none => rw [hz] at hm; cases hm
    | some z =>
     rw [hz] at hm
     cases hm
     obtain ⟨e, q1, q0, q2, q3⟩ := g3 m z.1 z.2.1 z.2.2 hz
     exact ⟨e, q1, q0, q2, q3.wipe hr⟩
   | iter m s l cl =>
    cases m with
    | none => exact ho
    | some m =>
     obtain ⟨mb, g1, g2⟩ := ho
     simp only [PObj.wipe, Option.bind_some]
     split
     ·rename_i hd
      exact ⟨mb, hr m mb hd g1, g2⟩
     ·exact ⟨_, g2⟩
 ·intro j c h1 l1
  obtain ⟨j', b1, v1, e1⟩ := lv h1 l1
  exact hi.notA j' c b1 v1
 ·intro j c h1 l1
  obtain ⟨j', b1, v1, e1⟩ := lv h1 l1
  exact hi.own j' c b1 v1
 ·intro j c h1 h2
  obtain ⟨g1, g2⟩ := hB j h1
  rw [List.getElem?_set, if_neg (fun e => g2 e.symm), List.getElem?_take, if_pos g1]
  exact hi.pre j c h1 h2
def dOk (st0 : List PObj) (i n : Nat) : Bool := (List.range st0.length).all fun j => !(dOf st0 j) || (decide (j < n) && j != i)
theorem dOk_spec {st0 : List PObj} {i n : Nat} (hD : ∀ j, B.D j = dOf st0 j) (h : dOk st0 i n = true) : ∀ j, B.D j = true → j < n ∧ j ≠ i := by
 intro j hj
 rw [hD] at hj
 have hlt : j < st0.length := by
  unfold dOf at hj
  cases hx : st0[j]? with
  | none => rw [hx] at hj; cases hj
  | some x => exact (List.getElem?_eq_some_iff.1 hx).1
 have := List.all_eq_true.1 h j (by simpa using hlt)
 rw [hj] at this
 simpa using this
theorem pl_append {T T2 s b i n cap : Nat} {x y : Operand} {xs ys : List PV} {st0 : List PObj} (hT : Tys P tys) (hD : ∀ j, B.D j = dOf st0 j) (hg : o.guard = none) (ho : o.op = .call ⟨.builtin .append, #[x, y], #[T, T2]⟩) (hk : appOk tys T T2 s b = true) (hx : pe env x = .msl s i 0 n cap) (hst : st[i]? = some (.arr s xs cap)) (hn : n = xs.length) (hy : pe env y = .sl ys)
  (hd0 : dOk st0 i st.length = true) (hpos : 0 < ys.length ∨ cap ≠ 0) (hs : ys.all (fun y => y.cells.length == s) = true) (hon : ys.all (fun y => y.cells.all PV.one) = true) (hbd : (xs.length + ys.length) * b ≤ 140737488355328)
  (hr : ∀ cap', xs.length + ys.length ≤ cap' → cap' ≠ 0 → PWL P Gl B ops rest (putE (env.map (wipe fun j => decide (j < st.length) && j != i)) o.dst (.msl s i 0 (xs.length + ys.length) cap')) ((st.map (PObj.wipe fun j => decide (j < st.length) && j != i)).set i (.arr s (xs ++ ys) cap')) Q) :
  PWL P Gl B ops (o :: rest) env st Q := fun A w β tmps hi he => by
 unfold wpList
 rw [if_pos (by simp [Region.wanted, hg])]
 refine .inl (Oper.wp_mono ?_ (op_append (K := fun x st' => ∃ cap', xs.length + ys.length ≤ cap' ∧ cap' ≠ 0 ∧ x = .msl s st.length 0 (xs.length + ys.length) cap' ∧ st' = st.set i .dead ++ [.arr s (xs ++ ys) cap']) hT ho hk hx hst hn hy hpos hs hon hbd (fun cap' h1 h2 => ⟨cap', h1, h2, rfl, rfl⟩) A w β tmps _ hi he))
 rintro a' w' ⟨v, x', st', A', β', rfl, ⟨cap', h1, h2, rfl, rfl⟩, hd, hi', hE, hβ⟩
 rw [put_tmps]
 have hil : i < st.length := (List.getElem?_eq_some_iff.1 hst).1
 have hlen : β'.length = st.length + 1 := by rw [hi'.len]; simp
 have hb : β'[st.length]? = some (β'[st.length]'(by omega)) := List.getElem?_eq_getElem (by omega)
 obtain ⟨b', hb', hv⟩ := hd.msl_inv h2
 have hbk := hi'.back (i := i) (L := st.length) (b := b') (by simp) hil (by intro y hy; rw [List.getElem?_set_self hil] at hy; cases hy; rfl) hb' (fun _ => rfl) (fun _ h => h) (dOk_spec hD hd0)
 have hw : ((st.set i PObj.dead).map (PObj.wipe fun j => decide (j < st.length) && j != i)).set i (.arr s (xs ++ ys) cap') = (st.map (PObj.wipe fun j => decide (j < st.length) && j != i)).set i (.arr s (xs ++ ys) cap') := by
  rw [List.map_set, List.set_set]
 rw [hw] at hbk
 have hr0 : ∀ (k c : Nat), (decide (k < st.length) && k != i) = true → β'[k]? = some c → ((β'.take st.length).set i b')[k]? = some c := by
  intro k c hk hc
  simp only [Bool.and_eq_true, decide_eq_true_eq, bne_iff_ne, ne_eq] at hk
  rw [List.getElem?_set, if_neg (fun e => hk.2 e.symm), List.getElem?_take, if_pos hk.1]; exact hc
 refine hr cap' h1 h2 A' w' _ _ hbk (EnvRel.put ⟨by simpa using he.1, fun m p u hp hu => ?_⟩ o.dst ?_)
 ·rw [List.getElem?_map] at hp
  cases hz : env[m]? with
  | none => rw [hz] at hp; cases hp
  | some z => rw [hz] at hp; cases hp; exact ((he.2 m z u hz hu).mono hE hβ).wipe hr0
 ·rw [hv]
  exact .msl _ _ _ _ _ _ _ (by rw [List.getElem?_set_self (by simp; omega)])
end rules
end Go.Pw
