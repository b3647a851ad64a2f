/-
 An append to a slice that is read again: result and slice are given up for rows at once. What is appended may lie in an array of the function's own.
-/
import Derived.Test.YtkaobkjcjodffaaGreatDoorAPwApX
namespace Go.Pw
open Go
section
variable {P : Program} {Gl : Glob} {B : Base} {tys : List TI} {env : List PV} {st : List PObj} {ops : Array Oper} {rest : List Oper} {o : Oper} {Q : Post} {A : Nat → Prop} {w : World} {β : List Nat} {tmps : List Value}
theorem Den.slPre {β' : List Nat} {xs ys : List PV} {a : Option Addr} {n m cap : Nat} (h : Den A w β (.sl (xs ++ ys)) (.slice a m cap)) (hn : n = xs.length) : Den A w β' (.sl xs) (.slice a n cap) := by
 subst hn
 generalize hz : xs ++ ys = zs at h
 cases h with
 | slnil =>
  obtain ⟨rfl, rfl⟩ := List.append_eq_nil_iff.1 hz
  exact .slnil _
 | sl _ k _ a cap f h1 h2 h3 h4 h5 h6 =>
  subst hz
  refine .sl _ k xs a cap f (fun h => h1 fun e => h (List.append_eq_nil_iff.1 e).1) (by rw [List.length_append] at h2; omega) h3 (fun x hx => h4 x (List.mem_append_left _ hx)) (fun i x j c hx hc => h5 i x j c ?_ hc) (fun i x j c hx hc => h6 i x j c ?_ hc)
  all_goals rw [List.getElem?_append_left (List.getElem?_eq_some_iff.1 hx).1]; exact hx
def Readable (P : Program) (A : Nat → Prop) (w : World) (s : Nat) (ys : List PV) (v : Value) : Prop :=
 ∃ (a : Option Addr) (cap : Nat) (cs : List Value), v = .slice a ys.length cap ∧ (∀ w2 : World, w2.heap = w.heap → (Builtin.firstCells s ys.length v).run P w2 = .ok cs.toArray w2) ∧ RowDen A w s ys cs
theorem read_arr {y : Operand} {s j m cap : Nat} {ys : List PV} (hi : Inv Gl B A w β st) (he : EnvRel A w β env tmps) (hy : pe env y = .msl s j 0 m cap) (hst : st[j]? = some (.arr s ys cap)) (hm : m = ys.length) : Readable P A w s ys ((⟨tmps.toArray, []⟩ : Act).eval y) := by
 have hdy := he.eval [] y
 rw [hy] at hdy
 subst hm
 have hlen := hi.len
 have hjl : j < st.length := (List.getElem?_eq_some_iff.1 hst).1
 have hbb : β[j]? = some (β[j]'(by omega)) := List.getElem?_eq_getElem (by omega)
 generalize (β[j]'(by omega)) = bb at hbb
 have hobj := hi.obj j bb _ hbb hst
 by_cases hne : cap = 0
 ·subst hne
  have : ys = [] := List.eq_nil_of_length_eq_zero (by have := hobj.1; omega)
  subst this
  obtain ⟨a, ha⟩ := hdy.msl_any
  refine ⟨a, 0, [], ha, fun w2 _ => ?_, RowDen.nil s⟩
  rw [ha]
  cases a <;> simp [Builtin.firstCells, loadCells, loadCellsFrom]
 ·obtain ⟨b', hb', hv⟩ := hdy.msl_inv hne
  rw [hbb] at hb'
  cases hb'
  rw [Nat.zero_mul] at hv
  obtain ⟨cs, h1, h2⟩ := run_firstm (P := P) hobj hne cap
  rw [hv]
  exact ⟨_, _, cs, rfl, h1, h2⟩
theorem FSt.one {i0 : Nat} : ∀ (l : List PObj) (k m : Nat), k + m = i0 → FSt (fun j => j == i0) st k l (l.set m .dead)
 | [], _, _, _ => trivial
 | x :: l, k, 0, h => by
  refine ⟨?_, ?_⟩
  ·have : (k == i0) = true := by simpa using h
   simp only [this]
  ·have : ∀ (l : List PObj) (k' : Nat), k < k' → FSt (fun j => j == i0) st k' l l := fun l => by
    induction l with
    | nil => exact fun _ _ => trivial
    | cons y l ih =>
     intro k' hk
     refine ⟨?_, ih (k' + 1) (by omega)⟩
     have : (k' == i0) = false := by simp; omega
     simp only [this]
     exact .inr (.inl rfl)
   exact this l (k + 1) (by omega)
 | x :: l, k, m + 1, h => by
  refine ⟨?_, FSt.one l (k + 1) m (by omega)⟩
  have : (k == i0) = false := by simp; omega
  simp only [this]
  exact .inr (.inl rfl)
theorem Den.nilAny (a : Option Addr) : Den A w β (.sl []) (.slice a 0 0) := by
 cases a with
 | none => exact .slnil ..
 | some a => exact .sl _ 0 [] a 0 (fun _ _ => undef) (fun h => (h rfl).elim) (Nat.le_refl _) (Nat.zero_le _) (by intro x hx; cases hx) (by intro i x j c hx; simp at hx) (by intro i x j c hx; simp at hx)
theorem app_keep {T T2 s b i n cap : Nat} {x y : Operand} {xs ys : List PV} (hT : Tys P tys) (ho : o.op = .call ⟨.builtin .append, #[x, y], #[T, T2]⟩) (hk : appOk tys T T2 s b = true) (hx : pe env x = .msl s i 0 n cap) (hst : st[i]? = some (.arr s xs cap)) (hn : n = xs.length)
  (hs : ys.all (fun y => y.cells.length == s) = true) (hon : ys.all (fun y => y.cells.all PV.one) = true) (hbd : (xs.length + ys.length) * b ≤ 140737488355328) (hi : Inv Gl B A w β st) (he : EnvRel A w β env tmps) (hrd : Readable P A w s ys ((⟨tmps.toArray, []⟩ : Act).eval y)) {Q'} :
  o.wp P ⟨tmps.toArray, []⟩ w (fun a' w' => ∃ v A' β', a' = (⟨tmps.toArray, []⟩ : Act).put o.dst v ∧ Den A' w' β' (.sl (xs ++ ys)) v ∧ (∀ u, Den A w β (.msl s i 0 n cap) u → Den A' w' β' (.sl xs) u) ∧ Inv Gl B A' w' β' (st.set i .dead ++ [.dead]) ∧ Ext A w A' w' ∧ Pre β β') Q' := by
 obtain ⟨e, tie, zv, ⟨hu, ⟨e2, hu2⟩, hie, hse, hbe, hzv, hzs⟩, hb0⟩ := appOk_spec hT hk
 have hs' : ∀ y ∈ ys, y.cells.length = s := fun y hy => by simpa using List.all_eq_true.1 hs y hy
 subst hn
 have hdx := he.eval [] x
 rw [hx] at hdx
 obtain ⟨a, cap2, cs, hv, hf, hrow⟩ := hrd
 have hlen := hi.len
 have hil : i < st.length := (List.getElem?_eq_some_iff.1 hst).1
 have hbb : β[i]? = some (β[i]'(by omega)) := List.getElem?_eq_getElem (by omega)
 generalize (β[i]'(by omega)) = bb at hbb
 have hobj := hi.obj i bb _ hbb hst
 have hlenv : (Builtin.lenOf ((⟨tmps.toArray, []⟩ : Act).eval y)).run P w = .ok ys.length w := by rw [hv]; rfl
 have hml : xs.length + ys.length ≤ maxLen := by
  have : (xs.length + ys.length) * 1 ≤ (xs.length + ys.length) * b := Nat.mul_le_mul_left _ hb0
  unfold maxLen; omega
 have hxc : xs.length ≤ cap := hobj.1
 have hdead : ∀ {A' : Nat → Prop} {w' : World} {β' : List Nat} {z : PObj}, Inv Gl B A' w' β' (st.set i .dead ++ [z]) → Inv Gl B A' w' β' (st.set i .dead ++ [.dead]) := fun h => h.weaken ((StLe.refl _).append ⟨.inr (.inl rfl), trivial⟩)
 have hlast : ∀ (st' : List PObj) (z : PObj), st'.length = st.length → FSt (fun j => j == st.length) (st' ++ [z]) 0 (st' ++ [z]) (st' ++ [.dead]) := fun st' z hl => FSt.last _ _ _ _ 0 (fun j hj => by simp; omega) (by simp [hl])
 unfold Oper.wp
 by_cases hz : ys = [] ∧ cap = 0
 ·obtain ⟨rfl, rfl⟩ := hz
  have : xs = [] := List.eq_nil_of_length_eq_zero (by omega)
  subst this
  obtain ⟨a0, hvx⟩ := hdx.msl_any
  have hrun : (Builtin.append_ #[T, T2] o.type #[.slice a0 ([] : List PV).length 0, (⟨tmps.toArray, []⟩ : Act).eval y]).run P w = .ok (.slice a0 0 0) w := by
   simp only [List.length_nil]
   cases a0 with
   | some a0 => exact run_fit hu hu2 (by simp [szOf, hie, hse]) (new := cs) hlenv (hf w rfl) (Nat.le_refl _) o.type (by
     have : cs = [] := List.eq_nil_of_length_eq_zero (by rw [hrow.1]; simp)
     subst this; simp [storeCells])
   | none =>
    simp only [List.length_nil] at hlenv
    simp only [Builtin.append_, List.getElem?_toArray, List.getElem?_cons_zero, List.getElem?_cons_succ, Sem.run_bind, run_underlying hu, run_underlying hu2, Result.andThen_ok, run_size (show szOf P e = some s by simp [szOf, hie, hse]), Sem.run_pure, Bool.false_eq_true, if_false, hlenv]
    rw [if_pos (by omega)]
    have hf0 := hf w rfl
    simp only [List.length_nil] at hf0
    simp only [Sem.run_bind, hf0, Result.andThen_ok, Bool.not_false, if_true, Sem.run_pure]
  rw [run_callb (o := o) ho rfl, hvx, hrun]
  exact ⟨_, A, β ++ [0], rfl, Den.nilAny _, fun u hu => (by obtain ⟨a1, rfl⟩ := hu.msl_any; exact Den.nilAny _), hdead ((hi.weaken (StLe.kill st i)).ghost s), .refl _ _, Pre.snoc _ _⟩
 have hpos : 0 < ys.length ∨ cap ≠ 0 := by
  rcases Nat.eq_zero_or_pos ys.length with h | h
  ·exact .inr fun hc => hz ⟨List.eq_nil_of_length_eq_zero h, hc⟩
  ·exact .inl h
 by_cases hfit : xs.length + ys.length ≤ cap
 ·have hne : cap ≠ 0 := by omega
  obtain ⟨b', hb', hvx⟩ := hdx.msl_inv hne
  rw [hbb] at hb'
  cases hb'
  rw [Nat.zero_mul] at hvx
  have hlive : PObj.live (.arr s xs cap) = true := by cases cap with | zero => exact (hne rfl).elim | succ c => rfl
  have hlive2 : PObj.live (.arr s (xs ++ ys) cap) = true := by cases cap with | zero => exact (hne rfl).elim | succ c => rfl
  obtain ⟨h4, h5, h6, h0⟩ := id hobj
  obtain ⟨vs, T', fr, h1, h2, h3, h7⟩ := h0 hne
  have hcsl : cs.length = ys.length * s := hrow.1
  have hone : ∀ u ∈ cs, u.oneCell' = true := hrow.cells hon
  have hle : xs.length * s + ys.length * s ≤ cap * s := by rw [← Nat.add_mul]; exact Nat.mul_le_mul_right _ hfit
  obtain ⟨w', r1, r2, r3, r4, r5, r6, r7⟩ := run_storeCells (P := P) bb T' fr cs 0 (xs.length * s) vs w h1 (by omega) hone (by rw [h2]; exact h3)
  have hE : Ext A w A w' := ⟨fun _ h => h, fun k hkk => r6 k (fun e => hi.notA i bb hbb ⟨_, hst, hlive⟩ (e ▸ hkk))⟩
  have hx' : ObjRel A β w' bb (.arr s (xs ++ ys) cap) := by
   refine ⟨by simpa using hfit, h5, fun z hz => by rcases List.mem_append.1 hz with hz | hz; exact h6 z hz; exact hs' z hz, fun _ => ⟨_, T', fr, r7, by simp; omega, h3, fun ii z j c hz hc => ?_⟩⟩
   have hjs : j < s := by
    have : z.cells.length = s := by rcases List.mem_append.1 (List.mem_of_getElem? hz) with hz | hz; exact h6 z hz; exact hs' z hz
    rw [← this]; exact (List.getElem?_eq_some_iff.1 hc).1
   rw [Nat.add_zero]
   by_cases hii : ii < xs.length
   ·rw [List.getElem?_append_left hii] at hz
    obtain ⟨v, hv, hd⟩ := h7 ii z j c hz hc
    have : (ii + 1) * s ≤ xs.length * s := Nat.mul_le_mul_right _ hii
    rw [Nat.add_mul] at this
    refine ⟨v, ?_, hd.mono hE (.refl _)⟩
    rw [List.append_assoc, List.getElem?_append_left (by simp; omega), List.getElem?_take, if_pos (by omega)]
    exact hv
   ·rw [List.getElem?_append_right (by omega)] at hz
    obtain ⟨v, hv, hd⟩ := hrow.2.2 _ z j c hz hc
    have hik : ii * s = xs.length * s + (ii - xs.length) * s := by rw [← Nat.add_mul]; congr 1; omega
    have hlt := (List.getElem?_eq_some_iff.1 hv).1
    refine ⟨v, ?_, hd.mono hE (.refl _)⟩
    rw [List.getElem?_append_left (by simp; omega), List.getElem?_append_right (by simp; omega)]
    rw [← hv]
    congr 1
    simp; omega
  obtain ⟨hi', hE'⟩ := hi.write hbb hst hlive r2 r3 r4 r5 r6 hx'
  have hmv := hi'.move (i := i) (b := bb) (x := .arr s (xs ++ ys) cap) (y := .arr s (xs ++ ys) cap) hbb (by rw [List.getElem?_set_self hil]) hlive2 (hx'.mono (.refl _ _) (Pre.snoc _ _) rfl)
  rw [List.set_set] at hmv
  have hrun := run_fit (P := P) (w := w) hu hu2 (by simp [szOf, hie, hse]) (a := ⟨bb, 0, none⟩) (n := xs.length) (cap := cap) hlenv (hf w rfl) hfit o.type (w' := w') (by rw [addr_add, Nat.zero_add]; exact r1)
  rw [run_callb (o := o) ho rfl, hvx, hrun]
  obtain ⟨A1, hE1, hden, hinv⟩ := hmv.freeze (fun j => j == st.length)
  have hd1 : Den A w' (β ++ [bb]) (.msl s st.length 0 (xs.length + ys.length) cap) (.slice (some ⟨bb, 0, none⟩) (xs.length + ys.length) cap) := by
   have : Den A w' (β ++ [bb]) (.msl s st.length 0 (xs.length + ys.length) cap) (.slice (some ⟨bb, 0 * s, none⟩) (xs.length + ys.length) cap) := .msl _ _ _ _ _ _ _ (by rw [← hlen]; simp)
   rwa [Nat.zero_mul] at this
  have hd2 := hden 1 _ (.sl (xs ++ ys)) _ (.inr (.inr (.inr (.inl ⟨s, st.length, _, cap, s, xs ++ ys, rfl, by simp, by simp, by simp, rfl⟩)))) hd1
  exact ⟨_, A1, β ++ [bb], rfl, hd2, fun u hu => (by
   obtain ⟨b', hb', rfl⟩ := hu.msl_inv hne
   rw [hbb] at hb'
   cases hb'
   rw [Nat.zero_mul]
   exact hd2.slPre rfl), hinv _ (hlast _ _ (by simp)), hE'.trans hE1, Pre.snoc _ _⟩
 ·have hold : ∃ (base : Option Addr) (old : List Value), (⟨tmps.toArray, []⟩ : Act).eval x = .slice base xs.length cap ∧ (∀ w2 : World, w2.heap = w.heap → (Builtin.firstCells s xs.length (.slice base xs.length cap)).run P w2 = .ok old.toArray w2) ∧ RowDen A w s xs old := by
   by_cases hne : cap = 0
   ·subst hne
    have : xs = [] := List.eq_nil_of_length_eq_zero (by omega)
    subst this
    obtain ⟨a, ha⟩ := hdx.msl_any
    refine ⟨a, [], ha, fun w2 _ => ?_, RowDen.nil s⟩
    cases a <;> simp [Builtin.firstCells, loadCells, loadCellsFrom]
   ·obtain ⟨b', hb', hvx⟩ := hdx.msl_inv hne
    rw [hbb] at hb'
    cases hb'
    rw [Nat.zero_mul] at hvx
    obtain ⟨old, h1, h2⟩ := run_firstm (P := P) hobj hne cap
    exact ⟨_, old, hvx, h1, h2⟩
  obtain ⟨base, old, hvx, hold, hrow0⟩ := hold
  have hg := run_grow (P := P) (w := w) hu hu2 hie hse hbe hzv hb0 (base := base) (n := xs.length) (cap := cap) (v := (⟨tmps.toArray, []⟩ : Act).eval y) (m := ys.length) (old := old) (new := cs) hlenv hold hf (by omega) hbd o.type
  obtain ⟨hc1, hc2⟩ := cap_cut (xs.length + ys.length) cap e (w.tape w.drawn (Question.appendCap (xs.length + ys.length) cap e)) hml
  generalize (Question.appendCap (xs.length + ys.length) cap e).cut (w.tape w.drawn (Question.appendCap (xs.length + ys.length) cap e)) = cap' at *
  rw [run_callb (o := o) ho rfl]
  rw [hvx] at hdx
  rw [hvx, hg]
  have hE : Ext A w A { w with drawn := w.drawn + 1 } := ⟨fun _ h => h, fun _ _ => rfl⟩
  have hi1 := hi.drew
  have hE2 := hi1.ext_alloc (.cells (old ++ (cs ++ (Builtin.zeroCells zv.cells (cap' - (xs.length + ys.length))).toList)).toArray e)
  have hE3 := hE.trans hE2
  have hsn := hi1.snoc _ _ (arr_of_row (T := e) (β := β ++ [w.heap.size]) (b := w.heap.size) (xs := xs ++ ys) (k := s) (cap := cap') (A := A) (cs := old ++ cs) (zs := (Builtin.zeroCells zv.cells (cap' - (xs.length + ys.length))).toList) (by
   show (w.heap.push (.cells (old ++ (cs ++ (Builtin.zeroCells zv.cells (cap' - (xs.length + ys.length))).toList)).toArray e))[w.heap.size]? = _
   simp) (((hrow0.append hrow).mono hE).mono hE2) (by
   rw [List.length_append, List.length_append, zeroCells_len, hrow0.1, hrow.1, hzs, ← Nat.add_mul, ← Nat.add_mul]
   congr 1
   omega) (by simpa using hc1) hc2)
  have hd1 : Den A (({ w with drawn := w.drawn + 1 } : World).alloc (.cells (old ++ (cs ++ (Builtin.zeroCells zv.cells (cap' - (xs.length + ys.length))).toList)).toArray e)) (β ++ [w.heap.size]) (.msl s st.length 0 (xs.length + ys.length) cap') (.slice (some ⟨w.heap.size, 0, none⟩) (xs.length + ys.length) cap') := by
   have : Den A (({ w with drawn := w.drawn + 1 } : World).alloc (.cells (old ++ (cs ++ (Builtin.zeroCells zv.cells (cap' - (xs.length + ys.length))).toList)).toArray e)) (β ++ [w.heap.size]) (.msl s st.length 0 (xs.length + ys.length) cap') (.slice (some ⟨w.heap.size, 0 * s, none⟩) (xs.length + ys.length) cap') := .msl _ _ _ _ _ _ _ (by rw [← hlen]; simp)
   rwa [Nat.zero_mul] at this
  obtain ⟨A1, hE4, hden, hinv⟩ := Inv.freeze hsn (fun j => j == st.length)
  have hd2 := hden 1 _ (.sl (xs ++ ys)) _ (.inr (.inr (.inr (.inl ⟨s, st.length, _, cap', s, xs ++ ys, rfl, by simp, by simp, by simp, rfl⟩)))) hd1
  have hi2 := hinv _ (hlast st _ rfl)
  have hd3 := fun u (hu : Den A w β (.msl s i 0 xs.length cap) u) => hden 1 _ _ _ (.inr (.inl rfl)) (hu.mono hE3 (Pre.snoc β [w.heap.size]))
  obtain ⟨A2, hE5, hden2, hinv2⟩ := Inv.freeze hi2 (fun j => j == i)
  have hi3 := hinv2 _ (FSt.one (st ++ [.dead]) 0 i (by omega))
  rw [List.set_append_left _ _ hil] at hi3
  exact ⟨_, A2, β ++ [w.heap.size], rfl, hden2 1 _ _ _ (.inr (.inl rfl)) hd2, fun u hu => hden2 1 _ _ _ (.inr (.inr (.inr (.inl ⟨s, i, _, cap, s, xs, rfl, by simp, by rw [List.getElem?_append_left hil]; exact hst, rfl, rfl⟩)))) (hd3 u hu), hi3, (hE3.trans hE4).trans hE5, Pre.snoc _ _⟩
theorem EnvRel.setAt (h : EnvRel A w β env tmps) (t : Nat) {x : PV} (hx : ∀ v, tmps[t]? = some v → Den A w β x v) : EnvRel A w β (env.set t x) tmps := by
 refine ⟨by simpa using h.1, fun i p v hp hv => ?_⟩
 rw [List.getElem?_set] at hp
 split at hp
 ·rename_i e
  subst e
  split at hp
  ·cases hp; exact hx v hv
  ·cases hp
 ·exact h.2 i p v hp hv
theorem pl_appendK {T T2 s b i j n m cap cap2 : Nat} (t : Nat) {x y : Operand} {xs ys : List PV} (hT : Tys P tys) (hg : o.guard = none) (ho : o.op = .call ⟨.builtin .append, #[x, y], #[T, T2]⟩) (hk : appOk tys T T2 s b = true) (hx : pe env x = .msl s i 0 n cap) (ht : env[t]? = some (.msl s i 0 n cap)) (hst : st[i]? = some (.arr s xs cap)) (hn : n = xs.length)
  (hy : pe env y = .msl s j 0 m cap2) (hst2 : st[j]? = some (.arr s ys cap2)) (hm : m = ys.length)
  (hs : ys.all (fun y => y.cells.length == s) = true) (hon : ys.all (fun y => y.cells.all PV.one) = true) (hbd : (xs.length + ys.length) * b ≤ 140737488355328)
  (h : PWL P Gl B ops rest (putE (env.set t (.sl xs)) o.dst (.sl (xs ++ ys))) (st.set i .dead ++ [.dead]) Q) : PWL P Gl B ops (o :: rest) env st Q := fun A w β tmps hi he => by
 unfold wpList
 rw [if_pos (by simp [Region.wanted, hg])]
 refine .inl (Oper.wp_mono ?_ (app_keep hT ho hk hx hst hn hs hon hbd hi he (read_arr (P := P) hi he hy hst2 hm)))
 rintro a' w' ⟨v, A', β', rfl, hd1, hd2, hi', hE, hβ⟩
 rw [put_tmps]
 exact h A' w' β' _ hi' (EnvRel.put ((he.mono hE hβ).setAt t fun u hu => hd2 u (he.2 t _ u ht hu)) o.dst hd1)
end
end Go.Pw
