/-
 Maps with strings for keys; elements of arrays behind a pointer; scopes.
 Calls to which arrays of the caller's own are lent: the callee reads them as rows, and behind the call they are the caller's own again.
 Elements of arrays of the function's own, read and written in place; operations whose pure value is shown, not reckoned.
 Two ways of a test, joined behind it; calls to which the arrays below a number are lent.
 The chains of rules that a walk repeats, each under one name.
-/
import Derived.Scope
import Derived.MapKept
import Derived.Test.YtkaobkjcjodffaaGreatDoorSPwFork
namespace Go.Pw
open Go
section rules
variable {P : Program} {Gl : Glob} {B : Base} {tys : List TI} {env : List PV} {st : List PObj} {ops : Array Oper} {rest : List Oper} {o : Oper} {Q : Post}
 {A : Nat → Prop} {w : World} {β : List Nat} {tmps : List Value}
theorem pw_scope {c : Code} (h : PW P Gl B c env st Q) (hq : ∀ l env st, ¬ Q (.goto l) env st) : PW P Gl B (.scope c) env st Q := fun A w β tmps hi he => by
 refine wp_scope_straight (wp_mono (h A w β tmps hi he) ?_)
 rintro e a' w' ⟨env', st', A', β', t', h1, h2, h3⟩
 cases e with
 | goto l => exact (hq l _ _ h2).elim
 | _ => exact ⟨env', st', A', β', t', h1, h2, h3⟩
theorem v_indexA {t : TypeId} {x y : Operand} {i off : Nat} {k : IntKind} {n : Int} (hT : Tys P tys) (ho : o.op = .indexAddr t x y) {len e s z1 z2 : Nat} {z3 : Option (List PV)} (ht : tys[t]? = some ⟨.arr len e s, z1, z2, z3⟩)
  (hx : pe env x = .ptr i off) (hy : pe env y = .int k n) (h0 : 0 ≤ n) (h1 : n < len) : OpV P Gl B o env (.ptr i (off + n.toNat * s)) := fun _ A w β tmps _ he => by
 obtain ⟨ti, d, hi1, hu, htk, _⟩ := tyOf_spec (hT _ _ ht)
 obtain ⟨rfl, hse⟩ := tkOf_arr htk
 have hd := he.eval [] x
 rw [hx] at hd
 obtain ⟨bb, hb, hv⟩ := hd.ptr_inv
 refine ⟨.pointer (some ⟨bb, off + n.toNat * s, none⟩), ?_, .ptr _ _ _ _ hb⟩
 have hc : 0 ≤ n ∧ n < ((len : Nat) : Int) := ⟨h0, h1⟩
 simp only [execOp, ho, int_of he hy, hv, Instr.indexAt, asIntOf, Sem.run_bind, Sem.run_pure, Result.andThen_ok, run_underlying hu, Instr.sureAddr, if_pos hc, run_size hse, addr_add]
theorem op_mkmap {K : PV → List PObj → Prop} {t : TypeId} (ho : o.op = .makeMap t none) (hK : K (.map st.length) (st ++ [.map []])) : OpP P Gl B o env st K := fun A w β tmps Q hi he => by
 unfold Oper.wp
 have hrun : (execOp (⟨tmps.toArray, []⟩ : Act).eval o).run P w = .ok (.value (.map (some w.heap.size))) (w.alloc (.map #[] 0)) := by
  simp only [execOp, ho, Instr.makeMap, Option.map_none, Sem.run_bind, run_newObj_alloc, Result.andThen_ok, Sem.run_pure]
 rw [hrun]
 have hlen := hi.len
 refine ⟨_, _, _, A, β ++ [w.heap.size], rfl, hK, .map _ _ _ (by rw [← hlen]; simp), hi.snoc _ _ ?_, hi.ext_alloc _, Pre.snoc _ _⟩
 refine ⟨[], 0, ?_, rfl, by intro j k v h; simp at h⟩
 show (w.heap.push _)[w.heap.size]? = _
 simp
theorem ba_beq (s t : ByteArray) : (s == t) = decide (s = t) := by
 rcases s with ⟨a⟩
 rcases t with ⟨b⟩
 show (a == b) = _
 by_cases h : a = b
 ·subst h; simp
 ·have : ¬ (ByteArray.mk a = ByteArray.mk b) := fun e => h (by injection e)
  simp [h]
theorem findNow_none (s : ByteArray) : ∀ (es : List MapEntry) (i : Nat), (∀ e ∈ es, ∃ t : ByteArray, e.key = .string t ∧ ¬ s = t) → Instr.findNow .string (.string s) es i = some none
 | [], i, _ => rfl
 | e :: es, i, h => by
  obtain ⟨t, h1, h2⟩ := h e (by simp)
  have : (s == t) = false := by rw [ba_beq]; simpa using h2
  simp only [Instr.findNow, h1, Instr.sameNow, this]
  exact findNow_none s es (i + 1) fun e he => h e (by simp [he])
theorem findNow_some (s : ByteArray) : ∀ (es : List MapEntry) (i j : Nat) (e : MapEntry), es[j]? = some e → e.key = .string s → (∀ k e, k < j → es[k]? = some e → ∃ t : ByteArray, e.key = .string t ∧ ¬ s = t) → Instr.findNow .string (.string s) es i = some (some (i + j, e.val))
 | [], i, j, e, h, _, _ => by simp at h
 | x :: es, i, 0, e, h, hk, _ => by
  simp at h; subst h
  simp [Instr.findNow, hk, Instr.sameNow, ba_beq]
 | x :: es, i, j + 1, e, h, hk, hno => by
  obtain ⟨t, h1, h2⟩ := hno 0 x (by omega) rfl
  have : (s == t) = false := by rw [ba_beq]; simpa using h2
  simp only [Instr.findNow, h1, Instr.sameNow, this]
  rw [findNow_some s es (i + 1) j e (by simpa using h) hk fun k e hk he => hno (k + 1) e (by omega) (by simpa using he)]
  congr 3; omega
theorem tkOf_map {d : TypeDesc} {k e : TypeId} (h : TK.map k e = tkOf P d) : d = .map k e := by
 cases d <;> simp only [tkOf] at h <;> first | (cases h; done) | (cases h; rfl) | skip
 all_goals (split at h <;> cases h)
theorem run_checkKey {b : Bool} {k : TypeId} {s : ByteArray} (hk : P.underlying k = some .string) : (Instr.checkKey b 10000 k (.string s)).run P w = .ok () w :=
 MapKept.run_checkKey hk (show MapKept.IsKey .string (.string s) from trivial) b 9999
theorem bytes_ne {s t : List UInt8} (h : ¬ s = t) : ¬ ((⟨s.toArray⟩ : ByteArray) = ⟨t.toArray⟩) := fun e => h (by
 have := congrArg (fun x : ByteArray => x.data.toList) e
 simpa using this)
theorem op_insert {K : PV → List PObj → Prop} {t k e : TypeId} {z1 z2 y1 y2 : Nat} {z3 y3 : Option (List PV)} {m x v : Operand} {i : Nat} {s : List UInt8} {p : PV} {es : List (List UInt8 × PV)} (hT : Tys P tys) (ho : o.op = .insert t m x v) (ht : tys[t]? = some ⟨.map k e, z1, z2, z3⟩) (htk : tys[k]? = some ⟨.str, y1, y2, y3⟩)
  (hm : pe env m = .map i) (hx : pe env x = .str s) (hv : pe env v = p) (hst : st[i]? = some (.map es)) (hnew : es.all (fun e => !(e.1 == s)) = true) (hK : K .any (st.set i (.map (es ++ [(s, p)])))) : OpP P Gl B o env st K := fun A w β tmps Q hi he => by
 obtain ⟨ti, d, hi1, hu, htk1, _⟩ := tyOf_spec (hT _ _ ht)
 have := tkOf_map htk1
 subst this
 obtain ⟨ti2, d2, hi2, hu2, htk2, _⟩ := tyOf_spec (hT _ _ htk)
 have := tkOf_str htk2
 subst this
 have hdm := he.eval [] m
 rw [hm] at hdm
 obtain ⟨b, hb, hvm⟩ : ∃ b, β[i]? = some b ∧ (⟨tmps.toArray, []⟩ : Act).eval m = .map (some b) := by
  generalize (⟨tmps.toArray, []⟩ : Act).eval m = u at hdm
  cases hdm with | map _ _ b hb => exact ⟨b, hb, rfl⟩
 have hdv := he.eval [] v
 rw [hv] at hdv
 obtain ⟨mes, cl, h1, h2, h3⟩ := hi.obj i b _ hb hst
 have hno : ∀ e ∈ mes, ∃ t : ByteArray, e.key = .string t ∧ ¬ (⟨s.toArray⟩ : ByteArray) = t := by
  intro e hem
  obtain ⟨j, hj⟩ := List.mem_iff_getElem?.1 hem
  have hlt : j < es.length := by rw [← h2]; exact (List.getElem?_eq_some_iff.1 hj).1
  obtain ⟨e', g1, g2, _⟩ := h3 j es[j].1 es[j].2 (List.getElem?_eq_getElem hlt)
  rw [hj] at g1
  cases g1
  refine ⟨_, g2, bytes_ne fun hs => ?_⟩
  have := List.all_eq_true.1 hnew es[j] (List.getElem_mem hlt)
  simp [hs] at this
 let ent : MapEntry := { key := .string ⟨s.toArray⟩, val := (⟨tmps.toArray, []⟩ : Act).eval v, born := cl }
 have hset : (w.heap.setIfInBounds b (.map (mes.toArray.push ent) (cl + 1)))[b]? = some (.map (mes ++ [ent]).toArray (cl + 1)) := by
  have hlt : b < w.heap.size := by
   rcases Nat.lt_or_ge b w.heap.size with h | h
   ·exact h
   ·rw [Array.getElem?_eq_none h] at h1; cases h1
  rw [Array.getElem?_setIfInBounds_self_of_lt hlt]
  simp
 unfold Oper.wp
 have hrun : (execOp (⟨tmps.toArray, []⟩ : Act).eval o).run P w = .ok .skip { w with heap := w.heap.setIfInBounds b (.map (mes.toArray.push ent) (cl + 1)) } := by
  simp only [execOp, ho, Instr.mapUpdate, Sem.run_bind, run_underlying hu, Result.andThen_ok, hvm, MapKept.run_getObj_map h1, str_of he hx, run_checkKey hu2, Instr.findKey, run_underlying hu2, findNow_none _ _ _ hno, Sem.run_pure, MapKept.run_setObj_map _ h1]
  rfl
 rw [hrun]
 have hother : ∀ k, k ≠ b → (w.heap.setIfInBounds b (.map (mes.toArray.push ent) (cl + 1)))[k]? = w.heap[k]? := fun k hk => by
  rw [Array.getElem?_setIfInBounds_ne (by omega)]
 have hE : Ext A w A { w with heap := w.heap.setIfInBounds b (.map (mes.toArray.push ent) (cl + 1)) } :=
  ⟨fun _ h => h, fun k hk => hother k (fun e => hi.notA i b hb ⟨_, hst, rfl⟩ (e ▸ hk))⟩
 obtain ⟨hi', hE'⟩ := hi.write (x := .map (es ++ [(s, p)])) hb hst rfl (w' := { w with heap := w.heap.setIfInBounds b (.map (mes.toArray.push ent) (cl + 1)) }) (by simp) rfl rfl rfl hother (by
  refine ⟨_, _, hset, by simp [h2], fun j k v' hj => ?_⟩
  by_cases hjl : j < es.length
  ·rw [List.getElem?_append_left hjl] at hj
   obtain ⟨e', g1, g2, g3⟩ := h3 j k v' hj
   exact ⟨e', by rw [List.getElem?_append_left (by omega)]; exact g1, g2, g3.mono hE (.refl _)⟩
  ·rw [List.getElem?_append_right (by omega)] at hj
   cases hz : j - es.length with
   | zero =>
    rw [hz] at hj
    simp at hj
    obtain ⟨rfl, rfl⟩ := hj
    exact ⟨_, by rw [List.getElem?_append_right (by omega), h2, hz]; rfl, rfl, hdv.mono hE (.refl _)⟩
   | succ n => rw [hz] at hj; simp at hj)
 exact ⟨_, .any, _, A, β, rfl, hK, .any .., hi', hE', .refl _⟩
end rules
end Go.Pw
namespace Go.Pw
open Go
def PV.plain : Nat → PV → Bool
 | 0, _ => false
 | n + 1, p => match p with
  | .any | .bool _ | .int _ _ | .str _ | .nilptr | .gptr _ _ | .nilsl | .nilmap | .nilfn | .niliface => true
  | .agg cs => cs.all (PV.plain n)
  | .tup cs => cs.all (PV.plain n)
  | _ => false
def PObj.plain : PObj → Bool
 | .box cs => cs.all (PV.plain 4)
 | .dead => true
 | _ => false
section
variable {P : Program} {Gl : Glob} {B : Base} {tys : List TI} {env : List PV} {st : List PObj} {A : Nat → Prop} {w : World} {β β' : List Nat}
theorem Den.plain {A' : Nat → Prop} {w' : World} : ∀ (n : Nat) {p : PV} {v : Value}, Den A w β p v → p.plain n = true → Den A' w' β' p v
 | 0, p, v, _, h => by simp [PV.plain] at h
 | n + 1, p, v, hd, h => by
  cases hd with
  | any => exact .any ..
  | bool => exact .bool ..
  | int => exact .int ..
  | str => exact .str ..
  | nilptr => exact .nilptr ..
  | gptr => exact .gptr ..
  | nilsl => exact .nilsl ..
  | nilmap => exact .nilmap ..
  | nilfn => exact .nilfn ..
  | niliface => exact .niliface ..
  | agg _ cs vs hl hd =>
   simp only [PV.plain] at h
   exact .agg _ _ _ hl fun j c v hc hv => Den.plain n (hd j c v hc hv) (List.all_eq_true.1 h c (List.mem_of_getElem? hc))
  | tup _ cs vs hl hd =>
   simp only [PV.plain] at h
   exact .tup _ _ _ hl fun j c v hc hv => Den.plain n (hd j c v hc hv) (List.all_eq_true.1 h c (List.mem_of_getElem? hc))
  | _ => simp [PV.plain] at h
theorem op_lend {o : Oper} {K : PV → List PObj → Prop} {fop : Operand} {args : Array Operand} {ats : Array TypeId} {f : FuncId} {full full' : List PV} {Q : PV → List PObj → Prop} (F : Nat → Bool) (sel : List Nat) {stF : List PObj}
  (ho : o.op = .call ⟨.value fop, args, ats⟩) (hf : calleeP (pe env fop) (args.toList.map (pe env)) = some (f, full)) (hent : Enters P f) (hnd : sel.Nodup) (hlive : sel.all (fun i => (st.getD i .dead).stays && !(F i)) = true)
  (hsF : FSt F st 0 st stF) (hlF : sel.all (fun i => (stF.getD i .dead).live) = true) (hfF : LeBy (FLe F st 3) full full') (hrefs : full'.all (PV.refs sel.contains 5) = true) (hobjs : sel.all (fun i => (stF.getD i .dead).refs sel.contains 5) = true)
  {cargs : List PV} {cst : List PObj} (hle : Le (full'.map (PV.ren (idxIn sel) 5)) cargs) (hls : StLe (selSt sel stF) cst) (hc : PCalls P Gl f cargs cst Q)
  (hK : ∀ r st', Q r st' → r.plain 3 = true ∧ st'.all PObj.plain = true ∧ K r (mergeAux sel st' 0 st)) :
  OpP P Gl B o env st K := fun A w β tmps Q' hi he => by
 have hlen := hi.len
 obtain ⟨A1, hE1, hden1, hinv1⟩ := hi.freeze F
 have hiF : Inv Gl B A1 w β stF := hinv1 stF hsF
 have hlenF : stF.length = st.length := (FSt.len hsF).symm
 have hso : ∀ i ∈ sel, ∃ x, stF[i]? = some x ∧ x.live = true := fun i h => by
  have := List.all_eq_true.1 hlF i h
  cases hx : stF[i]? with
  | none => simp [List.getD, hx, PObj.live] at this
  | some x => exact ⟨x, rfl, by simpa [List.getD, hx] using this⟩
 have hsb : ∀ i ∈ sel, ∃ b, β[i]? = some b := fun i h => by
  obtain ⟨x, hx, _⟩ := hso i h
  have : i < β.length := by rw [hlen, ← hlenF]; exact (List.getElem?_eq_some_iff.1 hx).1
  exact ⟨_, List.getElem?_eq_getElem this⟩
 let γ : List Nat := sel.map fun i => β.getD i 0
 have hγ : ∀ {j b : Nat}, γ[j]? = some b → ∃ i, sel[j]? = some i ∧ β[i]? = some b := by
  intro j b h
  simp only [γ, List.getElem?_map] at h
  cases hx : sel[j]? with
  | none => rw [hx] at h; cases h
  | some i =>
   rw [hx] at h
   cases h
   obtain ⟨b', hb'⟩ := hsb i (List.mem_of_getElem? hx)
   exact ⟨i, rfl, by simp [List.getD, hb']⟩
 have hin : ∀ (i b : Nat), sel.contains i = true → β[i]? = some b → γ[idxIn sel i]? = some b := by
  intro i b h hb
  have hm : i ∈ sel := by simpa using h
  have hlt := List.idxOf_lt_length_of_mem hm
  simp only [γ, idxIn, List.getElem?_map, List.getElem?_eq_getElem hlt, List.getElem_idxOf hlt, Option.map_some, List.getD, hb, Option.getD_some]
 have hrl : ∀ (y : PObj) (r : Nat → Nat) n, (y.ren r n).live = y.live := fun y r n => by cases y <;> rfl
 have hrs : ∀ (y : PObj) (r : Nat → Nat) n, (y.ren r n).stays = y.stays := fun y r n => by cases y <;> rfl
 have hcst : ∀ {j : Nat} {x : PObj}, (selSt sel stF)[j]? = some x → ∃ i y, sel[j]? = some i ∧ stF[i]? = some y ∧ x = y.ren (idxIn sel) 5 ∧ y.refs sel.contains 5 = true := by
  intro j x h
  simp only [selSt, List.getElem?_map] at h
  cases hx : sel[j]? with
  | none => rw [hx] at h; cases h
  | some i =>
   rw [hx] at h
   cases h
   obtain ⟨y, hy, hl⟩ := hso i (List.mem_of_getElem? hx)
   have hr := List.all_eq_true.1 hobjs i (List.mem_of_getElem? hx)
   simp only [List.getD, hy, Option.getD_some] at hr ⊢
   exact ⟨i, y, rfl, hy, rfl, hr⟩
 have hlv : ∀ {j : Nat}, liveAt (selSt sel stF) j → ∃ i, sel[j]? = some i ∧ liveAt stF i := fun {j} ⟨x, hx, hl⟩ => by
  obtain ⟨i, y, h1, h2, rfl, _⟩ := hcst hx
  exact ⟨i, h1, y, h2, by rw [hrl] at hl; exact hl⟩
 have hjj : ∀ {j k i : Nat}, sel[j]? = some i → sel[k]? = some i → j = k := fun {j k i} h1 h2 => by
  obtain ⟨l1, e1⟩ := List.getElem?_eq_some_iff.1 h1
  obtain ⟨l2, e2⟩ := List.getElem?_eq_some_iff.1 h2
  have hp := List.pairwise_iff_getElem.1 hnd
  rcases Nat.lt_trichotomy j k with h | h | h
  ·exact (hp j k l1 l2 h (e1.trans e2.symm)).elim
  ·exact h
  ·exact (hp k j l2 l1 h (e2.trans e1.symm)).elim
 have hK0 : ∀ {b : Nat}, (base0 A1 w γ (selSt sel stF)).K b → ∃ i, i ∈ sel ∧ β[i]? = some b ∧ liveAt stF i := fun {b} ⟨j, hj, hl⟩ => by
  obtain ⟨i1, s1, b1⟩ := hγ hj
  obtain ⟨i2, s2, l2⟩ := hlv hl
  rw [s1] at s2; cases s2
  exact ⟨i1, List.mem_of_getElem? s1, b1, l2⟩
 have hic0 : Inv Gl (base0 A1 w γ (selSt sel stF)) A1 w γ (selSt sel stF) := by
  have hr := hiF.rebase
  refine ⟨by simp [γ, selSt], ?_, ?_, ?_, ?_, hiF.lt, fun b h => .inl h, fun b h => h, Nat.le_refl _, rfl, rfl, rfl, fun _ _ _ => rfl, ?_, fun i b _ h => h, fun b hb => ⟨fun hk => ?_, hiF.lt b hb⟩⟩
  ·intro j k b h1 h2 l1 l2
   obtain ⟨i1, s1, b1⟩ := hγ h1
   obtain ⟨i2, s2, b2⟩ := hγ h2
   obtain ⟨i1', t1, v1⟩ := hlv l1
   obtain ⟨i2', t2, v2⟩ := hlv l2
   rw [s1] at t1; cases t1
   rw [s2] at t2; cases t2
   have := hiF.inj i1 i2 b b1 b2 v1 v2
   subst this
   exact hjj s1 s2
  ·intro j b x h1 h2
   obtain ⟨i1, s1, b1⟩ := hγ h1
   obtain ⟨i2, y, s2, hy, rfl, hr⟩ := hcst h2
   rw [s1] at s2; cases s2
   exact (hiF.obj i1 b y b1 hy).ren hin hr
  ·intro j b h1 l1
   obtain ⟨i1, s1, b1⟩ := hγ h1
   obtain ⟨i1', t1, v1⟩ := hlv l1
   rw [s1] at t1; cases t1
   exact hiF.notA i1 b b1 v1
  ·intro j b h1 l1; exact .inl ⟨j, h1, l1⟩
  ·intro b hb
   obtain ⟨g1, g2, g3, g4⟩ := hr.glob b hb
   refine ⟨g1, fun hm => ?_, g3, g4⟩
   obtain ⟨i1, s1, b1, v1⟩ := hK0 hm
   exact g2 ⟨i1, b1, v1⟩
  ·obtain ⟨i1, s1, b1, v1⟩ := hK0 hk
   exact hiF.notA i1 b b1 v1 hb
 have hic := (hic0.weaken hls).rebase
 have hKsel : ∀ {b : Nat}, (base0 A1 w γ cst).K b → ∃ i, i ∈ sel ∧ β[i]? = some b ∧ liveAt stF i := fun {b} ⟨j, hj, o, ho, hl⟩ => by
  refine hK0 ⟨j, hj, ?_⟩
  obtain ⟨q, hq, hr⟩ := hls.get j o ho
  rcases hr with rfl | rfl | ⟨cs, ds, rfl, rfl, _⟩
  ·exact ⟨_, hq, hl⟩
  ·cases hl
  ·exact ⟨_, hq, rfl⟩
 -- what lives in the frozen store lives in the store
 have hliveF : ∀ {i : Nat}, liveAt stF i → liveAt st i ∧ F i = false := fun {i} ⟨o, h1, h2⟩ => by
  obtain ⟨x, hx, hh⟩ := FSt.get hsF i o h1
  rw [Nat.zero_add] at hh
  rcases hh with ⟨_, rfl⟩ | ⟨hF, rfl | rfl | ⟨cs, ds, rfl, rfl, _⟩⟩
  ·cases h2
  ·cases h2
  ·exact ⟨⟨_, hx, h2⟩, hF⟩
  ·exact ⟨⟨_, hx, rfl⟩, hF⟩
 obtain ⟨fv, hfl, hfd, hrun⟩ := calleeP_run (P := P) (o := o) he ho hf hent
 have hargs : ArgRel A1 w γ (full'.map (PV.ren (idxIn sel) 5)) fv := by
  have hl' := LeBy.len hfF
  refine ⟨by simp [← hl', hfl], fun j p v hp hv => ?_⟩
  rw [List.getElem?_map] at hp
  cases hx : full'[j]? with
  | none => rw [hx] at hp; cases hp
  | some x =>
   rw [hx] at hp
   cases hp
   obtain ⟨q, hq, hr⟩ := LeBy.get hfF j x hx
   exact Den.ren hin 5 (hden1 3 q x v hr (hfd j q v hq hv)) (List.all_eq_true.1 hrefs x (List.mem_of_getElem? hx))
 have hcall := hc A1 w γ _ hic (hargs.weaken hle)
 unfold Oper.wp
 rw [hrun]
 refine hcall.mono ?_
 rintro e w' ⟨r, v, st', A', β', rfl, hq, hd, hi'⟩
 obtain ⟨hr1, hr2, hk⟩ := hK r st' hq
 have hlen' := hi'.len
 have hP : ∀ (j b : Nat), γ[j]? = some b → β'[j]? = some b := fun j b hj => by
  refine hi'.pre j b ?_ hj
  obtain ⟨i1, s1, b1⟩ := hγ hj
  have hs0 := List.all_eq_true.1 hlive i1 (List.mem_of_getElem? s1)
  rw [Bool.and_eq_true, Bool.not_eq_true'] at hs0
  have hjl : j < cst.length := by rw [← hls.len]; simp only [selSt, List.length_map]; exact (List.getElem?_eq_some_iff.1 s1).1
  have hcj : cst[j]? = some cst[j] := List.getElem?_eq_getElem hjl
  show ((cst[j]?).map PObj.stays).getD false = true
  rw [hcj]
  obtain ⟨q, hq, hr⟩ := hls.get j _ hcj
  simp only [selSt, List.getElem?_map, s1, Option.map_some] at hq
  cases hq
  obtain ⟨y, hy, hyl⟩ := hso i1 (List.mem_of_getElem? s1)
  have hys : y.stays = true := by
   obtain ⟨x, hx, hh⟩ := FSt.get hsF i1 y hy
   rw [Nat.zero_add] at hh
   have h0 := hs0.1
   simp only [List.getD, hx, Option.getD_some] at h0
   rcases hh with ⟨_, rfl⟩ | ⟨hF, rfl | rfl | ⟨cs, ds, rfl, rfl, _⟩⟩
   ·cases hyl
   ·cases hyl
   ·exact h0
   ·rfl
  simp only [List.getD, hy, Option.getD_some] at hr
  rcases hr with hr | hr | ⟨cs, ds, h1, h2, _⟩
  ·show cst[j].stays = true
   rw [← hr, hrs]; exact hys
  ·rw [hr]; rfl
  ·rw [h2]; rfl
 have hAsub : ∀ b, A b → A1 b := hE1.sub
 have hkeepA : ∀ b, A b → w'.heap[b]? = w.heap[b]? := fun b hb => by
  refine hi'.keep b (hi.lt b hb) fun hm => ?_
  obtain ⟨i1, s1, b1, v1⟩ := hKsel hm
  exact hi.notA i1 b b1 (hliveF v1).1 hb
 have hExt : Ext A w A w' := ⟨fun _ h => h, hkeepA⟩
 have hkeep : ∀ {i b : Nat}, β[i]? = some b → liveAt st i → i ∉ sel → w'.heap[b]? = w.heap[b]? := by
  intro i b hb hl hns
  refine hi'.keep b ((hi.obj i b _ hb hl.choose_spec.1).lt hl.choose_spec.2) (fun hm => ?_)
  obtain ⟨i1, s1, b1, v1⟩ := hKsel hm
  have := hi.inj i i1 b hb b1 hl (hliveF v1).1
  subst this
  exact hns s1
 have hsz : w.heap.size ≤ w'.heap.size := hi'.size
 have hmg := mergeAux_get sel st' st 0
 have hml := mergeAux_len sel st' st 0
 -- what lives behind the call lived before it
 have hlvM : ∀ {i : Nat}, liveAt (mergeAux sel st' 0 st) i → i ∈ sel ∨ (liveAt st i ∧ i ∉ sel) := fun {i} ⟨x, hx, hl⟩ => by
  by_cases hm : i ∈ sel
  ·exact .inl hm
  ·rw [hmg, Nat.zero_add] at hx
   rw [show sel.contains i = false by simpa using hm] at hx
   cases hs : st[i]? with
   | none => rw [hs] at hx; cases hx
   | some y => rw [hs] at hx; simp at hx; subst hx; exact .inr ⟨⟨_, hs, hl⟩, hm⟩
 have hselLive : ∀ {i : Nat}, i ∈ sel → liveAt st i := fun {i} h => by
  obtain ⟨x, hx, hl⟩ := hso i h
  exact (hliveF ⟨x, hx, hl⟩).1
 have hall : ∀ {i : Nat}, liveAt (mergeAux sel st' 0 st) i → liveAt st i := fun {i} h => by
  rcases hlvM h with h | h
  ·exact hselLive h
  ·exact h.1
 have hfin : Inv Gl B A w' β (mergeAux sel st' 0 st) := by
  refine ⟨hlen.trans hml.symm, fun i j b h1 h2 l1 l2 => hi.inj i j b h1 h2 (hall l1) (hall l2), ?_, fun i b h1 l1 => hi.notA i b h1 (hall l1), fun i b h1 l1 => hi.own i b h1 (hall l1), fun b hb => Nat.lt_of_lt_of_le (hi.lt b hb) hsz, hi.new, hi.old, Nat.le_trans hi.size hsz,
   hi'.os.trans hi.os, hi'.tape.trans hi.tape, hi'.output.trans hi.output, fun b hb hbk => ?_, hi.glob, hi.pre, hi.apart⟩
  ·intro i b x h1 hx
   by_cases hm : i ∈ sel
   ·rw [hmg, Nat.zero_add, show sel.contains i = true by simpa using hm] at hx
    cases hs : st[i]? with
    | none => rw [hs] at hx; cases hx
    | some y =>
     rw [hs] at hx
     simp only [Option.map_some, if_true, Option.some.injEq] at hx
     have hlt := List.idxOf_lt_length_of_mem hm
     have hgj : γ[sel.idxOf i]? = some b := hin i b (by simpa using hm) h1
     have hbj := hP _ b hgj
     cases hj : st'[sel.idxOf i]? with
     | none => rw [List.getD, hj] at hx; subst hx; trivial
     | some z =>
      rw [List.getD, hj] at hx
      simp only [Option.getD_some] at hx
      subst hx
      have hz := hi'.obj _ b z hbj hj
      have hzp := List.all_eq_true.1 hr2 z (List.mem_of_getElem? hj)
      cases z with
      | dead => trivial
      | box cs =>
       obtain ⟨vs, T, fr, g1, g2, g3, g4⟩ := hz
       refine ⟨vs, T, fr, g1, g2, g3, fun j c v hc hv => (g4 j c v hc hv).plain 4 (List.all_eq_true.1 hzp c (List.mem_of_getElem? hc))⟩
      | _ => simp [PObj.plain] at hzp
   ·rw [hmg, Nat.zero_add, show sel.contains i = false by simpa using hm] at hx
    cases hs : st[i]? with
    | none => rw [hs] at hx; cases hx
    | some y =>
     rw [hs] at hx
     simp at hx
     subst hx
     by_cases hl : y.live = true
     ·exact (hi.obj i b y h1 hs).mono hExt (Pre.refl _) (hkeep h1 ⟨y, hs, hl⟩ hm)
     ·exact (hi.obj i b y h1 hs).still (by simpa using hl)
  ·by_cases hm : (base0 A1 w γ cst).K b
   ·obtain ⟨i1, s1, b1, v1⟩ := hKsel hm
    rcases hi.own i1 b b1 (hliveF v1).1 with hh | hh
    ·exact (hbk hh).elim
    ·omega
   ·exact (hi'.keep b (Nat.lt_of_lt_of_le hb hi.size) hm).trans (hi.keep b hb hbk)
 exact ⟨v, r, mergeAux sel st' 0 st, A, β, rfl, hk, hd.plain 3 hr1, hfin, hExt, Pre.refl _⟩
end
end Go.Pw
namespace Go.Pw
open Go
section
variable {P : Program} {Gl : Glob} {B : Base} {tys : List TI} {env : List PV} {st : List PObj} {ops : Array Oper} {rest : List Oper} {o : Oper} {Q : Post}
theorem op_pure {K : PV → List PObj → Prop} {x : PV} (hT : Tys P tys) (h : pureOp tys st env o.op = some x) (hK : K x st) : OpP P Gl B o env st K :=
 op_val (fun _ _ _ _ hi he => pureOp_sound hT h hi he) hK
def forceV {α : Type} : List PV → (List PV → α) → α
 | [], k => k []
 | x :: xs, k => x.force fun x => forceV xs fun ys => k (x :: ys)
theorem forceV_eq {α : Type} : ∀ (l : List PV) (k : List PV → α), forceV l k = k l
 | [], k => rfl
 | x :: xs, k => by rw [forceV, PV.force_eq, forceV_eq xs]
def litF (env : List PV) (parts : List (Nat × Operand)) : Option (List PV) :=
 match litP env 0 parts with
 | some l => forceV l some
 | none => none
theorem op_litF {K : PV → List PObj → Prop} {T e s b z1 z2 : Nat} {z3 : Option (List PV)} {zl : List PV} {t1 : TK} {e1 e2 : Nat} {len : Nat} {parts : Array (Nat × Operand)} {xs : List PV} (hT : Tys P tys) (ho : o.op = .buildSlice T len parts) (ht : tys[T]? = some ⟨.sl e s b, z1, z2, z3⟩) (hte : tys[e]? = some ⟨t1, e1, e2, some zl⟩)
  (hx : litF env parts.toList = some xs) (hlen : len = parts.toList.length) (hs : 0 < s) (hsz : decide (len * s ≤ 16777216) = true) (h1 : xs.all PV.okPart = true) (h2 : xs.all (PV.refs (fun _ => false) 5) = true) (h3 : xs.all (fun x => x.cells.length == s) = true)
  (hK : K (.sl xs) st) : OpP P Gl B o env st K := by
 refine op_lit hT ho ht hte ?_ hlen hs hsz h1 h2 h3 hK
 unfold litF at hx
 split at hx
 ·rename_i l hl; rw [forceV_eq] at hx; rw [hl]; exact hx
 ·cases hx
theorem op_loadA {K : PV → List PObj → Prop} {t : TypeId} {a : Operand} {i off : Nat} {cs : List PV} {x : PV} {ti : TI} (hT : Tys P tys) (ho : o.op = .load t a) (ht : tys[t]? = some ti) (hk : ti.tk.known = true) (hag : ti.tk.agg = false)
  (ha : pe env a = .ptr i off) (hs : st[i]? = some (.box cs)) (hx : cs[off]? = some x) (hK : K x st) : OpP P Gl B o env st K :=
 op_pure hT (x := x) (by rw [ho]; simp only [pureOp, ht, hk, ha, hs, part?, hag, if_true]; exact hx) hK
theorem op_storeA {K : PV → List PObj → Prop} {t : TypeId} {a y : Operand} (hT : Tys P tys) (ho : o.op = .store t a y) {p : PV} {i off : Nat} {cs cs' : List PV} {ti : TI} (ht : tys[t]? = some ti)
  (ha : pe env a = .ptr i off) (hp : pe env y = p) (hs : st[i]? = some (.box cs)) (hk : p.okPart = true) (h1 : p.cells.all PV.one = true) (hsz : p.cells.length = ti.size) (hle : off + ti.size ≤ cs.length) (hcs : splice cs off p.cells = cs')
  (hK : K .any (st.set i (.box cs'))) : OpP P Gl B o env st K := op_store hT ho ht ha hp hs hk h1 hsz hle (by rw [hcs]; exact hK)
theorem splice_get {α : Type} (vs us : List α) (a n : Nat) (h : a + us.length ≤ vs.length) : (vs.take a ++ us ++ vs.drop (a + us.length))[n]? = if a ≤ n ∧ n < a + us.length then us[n - a]? else vs[n]? := by
 have hta : (vs.take a).length = a := by simp; omega
 by_cases h1 : n < a
 ·rw [if_neg (by omega), List.append_assoc, List.getElem?_append_left (by omega), List.getElem?_take_of_lt h1]
 ·by_cases h2 : n < a + us.length
  ·rw [if_pos ⟨by omega, h2⟩, List.append_assoc, List.getElem?_append_right (by omega), hta, List.getElem?_append_left (by omega)]
  ·rw [if_neg (by omega), List.getElem?_append_right (by simp; omega), List.getElem?_drop]
   congr 1
   simp; omega
theorem op_loadE {K : PV → List PObj → Prop} {t : TypeId} {a : Operand} {k i e off cap : Nat} {xs : List PV} {x0 x : PV} {ti : TI} (hT : Tys P tys) (ho : o.op = .load t a) (ht : tys[t]? = some ti) (hkn : ti.tk.known = true)
  (ha : pe env a = .eptr k i e off) (hs : st[i]? = some (.arr k xs cap)) (hcap : cap ≠ 0) (hx : xs[e]? = some x0) (hp : part? ti.tk.agg x0.cells off ti.size = some x) (hK : K x st) : OpP P Gl B o env st K := by
 refine op_val (fun A w β tmps hi he => ?_) hK
 have hda := he.eval [] a
 rw [ha] at hda
 obtain ⟨b, hb, hv⟩ := hda.eptr_inv
 obtain ⟨hl, hm, hc, h0⟩ := hi.obj _ _ _ hb hs
 obtain ⟨vs, T, fr, g1, g2, g3, g4⟩ := h0 hcap
 obtain ⟨ity, d, hi1, hut, htk, hts, _⟩ := tyOf_spec (hT _ _ ht)
 have hagg : ti.tk.agg = aggD d := tkOf_agg htk (fun y hy => by subst hy; intro h; rw [h] at hkn; cases hkn)
 have hcell : ∀ (j : Nat) c, x0.cells[j]? = some c → w.cell? ⟨b, e * k + j, none⟩ = some (vs.getD (e * k + j) undef) ∧ Den A w β c (vs.getD (e * k + j) undef) := by
  intro j c hj
  obtain ⟨v, hv, hd⟩ := g4 e x0 j c hx hj
  rw [obj_cell g1, List.getD, hv]
  exact ⟨rfl, hd.lift⟩
 obtain ⟨v, hr, hd⟩ := run_loadVar_cells (P := P) (A := A) (w := w) (β := β) x0.cells b (e * k) (fun j => vs.getD (e * k + j) undef) (fun j c hj => (hcell j c hj).1) (fun j c hj => (hcell j c hj).2) (s := ti.size) (off := off) (x := x) hut (by simp [szOf, hi1, hts]) (by rw [← hagg]; exact hp)
 refine ⟨v, ?_, hd⟩
 simp only [execOp, ho, hv, Instr.loadAt, Instr.sureAddr, Sem.run_bind, Sem.run_pure, Result.andThen_ok, hr]
theorem op_storeE {K : PV → List PObj → Prop} {t : TypeId} {a y : Operand} {k i e off cap : Nat} {xs : List PV} {x0 x1 p : PV} {ti : TI} (hT : Tys P tys) (ho : o.op = .store t a y) (ht : tys[t]? = some ti)
  (ha : pe env a = .eptr k i e off) (hp : pe env y = p) (hs : st[i]? = some (.arr k xs cap)) (hcap : cap ≠ 0) (hx : xs[e]? = some x0) (hk : p.okPart = true) (h1 : p.cells.all PV.one = true) (hr : p.cells.all (PV.refs (fun _ => false) 5) = true) (hsz : p.cells.length = ti.size) (hle : off + ti.size ≤ x0.cells.length)
  (hx1 : x1.cells = splice x0.cells off p.cells) (hK : K .any (st.set i (.arr k (xs.set e x1) cap))) : OpP P Gl B o env st K := fun A w β tmps Q hi he => by
 have hda := he.eval [] a
 have hdx := he.eval [] y
 rw [ha] at hda
 rw [hp] at hdx
 obtain ⟨b, hb, hv⟩ := hda.eptr_inv
 obtain ⟨us, hu1, hu2, hu3⟩ := cells_den hdx hk
 obtain ⟨hl, hm, hc, h0⟩ := hi.obj _ _ _ hb hs
 obtain ⟨vs, T', fr, g1, g2, g3, g4⟩ := h0 hcap
 obtain ⟨ity, d, hi1, hut, htk, hts, _⟩ := tyOf_spec (hT _ _ ht)
 have hone : ∀ u ∈ us, u.oneCell' = true := by
  intro u hu
  obtain ⟨j, hj⟩ := List.mem_iff_getElem?.1 hu
  have hlt : j < p.cells.length := by rw [hu2]; exact (List.getElem?_eq_some_iff.1 hj).1
  have hcj : p.cells[j]? = some p.cells[j] := List.getElem?_eq_getElem hlt
  exact one_cell (hu3 j _ u hcj hj) (List.all_eq_true.1 h1 _ (List.getElem_mem hlt))
 have helt : e < xs.length := (List.getElem?_eq_some_iff.1 hx).1
 have hx0k : x0.cells.length = k := hc x0 (List.mem_of_getElem? hx)
 have hroom : e * k + off + us.length ≤ vs.length := by
  have h2 : (e + 1) * k ≤ cap * k := Nat.mul_le_mul_right k (by omega)
  rw [Nat.succ_mul] at h2
  omega
 have hlive : (PObj.arr k xs cap).live = true := by cases cap with | zero => exact absurd rfl hcap | succ n => rfl
 obtain ⟨w', r1, r2, r3, r4, r5, r6, r7⟩ := run_storeCells (P := P) b T' fr us 0 (e * k + off) vs w g1 (by omega) hone (by rw [g2]; exact g3)
 rw [Nat.add_zero] at r7
 have hE : Ext A w A w' := ⟨fun _ h => h, fun z hz => r6 z (fun eq => hi.notA i b hb ⟨_, hs, hlive⟩ (eq ▸ hz))⟩
 have hob : ObjRel A β w' b (.arr k (xs.set e x1) cap) := by
  have hx1l : x1.cells.length = k := by rw [hx1]; simp [splice]; omega
  refine ⟨by simpa using hl, hm, fun x hx' => ?_, fun _ => ⟨_, T', fr, r7, ?_, g3, ?_⟩⟩
  ·rcases List.mem_or_eq_of_mem_set hx' with h | h
   ·exact hc x h
   ·rw [h]; exact hx1l
  ·simp; omega
  ·intro i' x j c hxi hcj
   rw [splice_get vs us _ _ hroom]
   rw [List.getElem?_set] at hxi
   by_cases hie : e = i'
   ·subst hie
    rw [if_pos rfl, if_pos helt] at hxi
    cases hxi
    rw [hx1, splice, splice_get x0.cells p.cells off j (by omega)] at hcj
    by_cases hin : off ≤ j ∧ j < off + p.cells.length
    ·rw [if_pos hin] at hcj
     rw [if_pos (by omega)]
     have hlt : j - off < us.length := by omega
     refine ⟨us[j - off], ?_, ?_⟩
     ·rw [show e * k + j - (e * k + off) = j - off by omega]; exact List.getElem?_eq_getElem hlt
     ·exact ((hu3 (j - off) c _ hcj (List.getElem?_eq_getElem hlt)).ground (List.all_eq_true.1 hr c (List.mem_of_getElem? hcj))).mono hE (Pre.refl _)
    ·rw [if_neg hin] at hcj
     rw [if_neg (by omega)]
     obtain ⟨v, hv', hd⟩ := g4 e x0 j c hx hcj
     exact ⟨v, hv', hd.mono hE (Pre.refl _)⟩
   ·rw [if_neg hie] at hxi
    have hjk : j < k := by
     have := hc x (List.mem_of_getElem? hxi)
     have := (List.getElem?_eq_some_iff.1 hcj).1
     omega
    rw [if_neg ?_]
    ·obtain ⟨v, hv', hd⟩ := g4 i' x j c hxi hcj
     exact ⟨v, hv', hd.mono hE (Pre.refl _)⟩
    ·rintro ⟨q1, q2⟩
     rcases Nat.lt_or_gt_of_ne hie with h | h
     ·have h2 : (e + 1) * k ≤ i' * k := Nat.mul_le_mul_right k h
      rw [Nat.succ_mul] at h2
      omega
     ·have h2 : (i' + 1) * k ≤ e * k := Nat.mul_le_mul_right k h
      rw [Nat.succ_mul] at h2
      omega
 obtain ⟨hi', hE'⟩ := hi.write hb hs hlive r2 r3 r4 r5 r6 hob
 unfold Oper.wp
 have hrun : (execOp (⟨tmps.toArray, []⟩ : Act).eval o).run P w = .ok .skip w' := by
  simp only [execOp, ho, Instr.storeAt, Sem.run_bind, hv, Instr.sureAddr, Sem.run_pure, Result.andThen_ok, storeVar]
  have hsz' : (sizeOf t).run P w = .ok ti.size w := run_size (by simp [szOf, hi1, hts]) w
  rw [hsz', Result.andThen_ok, if_neg (by rw [hu1]; simp; omega), hu1]
  simp only [r1, Result.andThen_ok]
 rw [hrun]
 exact ⟨_, .any, _, A, β, rfl, hK, .any .., hi', hE', .refl _⟩
theorem op_lend0 {K : PV → List PObj → Prop} {fop : Operand} {args : Array Operand} {ats : Array TypeId} {f : FuncId} {full cargs : List PV} {R : PV → Prop} (hc : PFun P Gl f cargs R)
  (ho : o.op = .call ⟨.value fop, args, ats⟩) (hf : calleeP (pe env fop) (args.toList.map (pe env)) = some (f, full)) (hent : Enters P f) (hfF : LeBy (FLe (fun _ => true) st 3) full cargs)
  (hrefs : cargs.all (PV.refs (fun _ => false) 5) = true) (hK : ∀ r, R r → r.plain 3 = true ∧ K r st) : OpP P Gl B o env st K := by
 have hdead : ∀ (l : List PObj) (n : Nat), FSt (fun _ => true) st n l (l.map fun _ => .dead) := by
  intro l
  induction l with
  | nil => intro n; trivial
  | cons x l ih => intro n; exact ⟨rfl, ih (n + 1)⟩
 have hm0 : ∀ (st' : List PObj) (l : List PObj) n, mergeAux [] st' n l = l := by
  intro st' l
  induction l with
  | nil => intro n; rfl
  | cons x l ih => intro n; simp [mergeAux, ih]
 have hle : Le (cargs.map (PV.ren (idxIn []) 5)) cargs := by
  rw [List.map_congr_left (g := fun x => x) (fun x hx => PV.ren_none 5 x (List.all_eq_true.1 hrefs x hx)), List.map_id']
  clear hrefs hfF hc
  induction cargs with
  | nil => trivial
  | cons x l ih => exact ⟨.inr (.inl rfl), ih⟩
 refine op_lend (fun _ => true) [] ho hf hent List.nodup_nil rfl (hdead st 0) rfl hfF ?_ rfl hle (cst := []) trivial hc ?_
 ·exact List.all_eq_true.2 fun x hx => PV.refs_mono (fun i h => by cases h) 5 x (List.all_eq_true.1 hrefs x hx)
 ·rintro r st' ⟨hR, rfl⟩
  obtain ⟨h1, h2⟩ := hK r hR
  exact ⟨h1, rfl, by rw [hm0]; exact h2⟩
end
end Go.Pw
namespace Go.Pw
open Go
section
variable {P : Program} {Gl : Glob} {B : Base} {tys : List TI} {env : List PV} {st : List PObj} {ops : Array Oper} {rest : List Oper} {o : Oper} {Q : Post}
def killF (F : Nat → Bool) : Nat → List PObj → List PObj
 | _, [] => []
 | i, x :: xs => (match F i with | true => .dead | false => x) :: killF F (i + 1) xs
theorem killF_spec (F : Nat → Bool) (st : List PObj) : ∀ (l : List PObj) (i : Nat), FSt F st i l (killF F i l)
 | [], _ => trivial
 | x :: l, i => by
  refine ⟨?_, killF_spec F st l (i + 1)⟩
  cases F i with
  | true => exact rfl
  | false => exact .inr (.inl rfl)
theorem pw_cut {st0 : List PObj} (hD : ∀ j, B.D j = dOf st0 j) {c : Code} {E env' : List PV} {S st' : List PObj} {n : Nat} (hn : (Nat.ble st0.length n && Nat.beq S.length n) = true)
  (hr : (E.all (PV.refs (fun i => Nat.blt i n) 5) && S.all (PObj.refs (fun i => Nat.blt i n) 5)) = true) (hl : Le env' E) (hs : StLe (st'.take S.length) S) (h : PW P Gl B c E S Q) : PW P Gl B c env' st' Q := fun A w β tmps hi he => by
 have hlt : (fun i => Nat.blt i n) = fun i => decide (i < n) := by
  funext i
  exact Bool.eq_iff_iff.2 (by simp)
 simp only [Bool.and_eq_true] at hn
 have h1 := Nat.eq_of_beq_eq_true hn.2
 have h2 := Nat.le_of_ble_eq_true hn.1
 rw [hlt, ← h1] at hr
 simp only [Bool.and_eq_true] at hr
 exact h A w (β.take S.length) tmps (hi.cut hD (by omega) hs hr.2) (he.cut hl hr.1)
theorem pw_join {st0 : List PObj} (hD : ∀ j, B.D j = dOf st0 j) {c y : Code} (φ : Prop) (vs : List (Nat × PV)) (S : List PObj) (n : Nat) {ds : List Nat} {E : List PV} (_hds : (forceN (dstsOf c) fun l => (l, ())) = (ds, ())) (_hM : (headK ds vs 0 env fun e => (e, ())) = (E, ()))
  (hn : (Nat.ble st0.length n && Nat.beq S.length n) = true) (hr : (E.all (PV.refs (fun i => Nat.blt i n) 5) && S.all (PObj.refs (fun i => Nat.blt i n) 5)) = true)
  (h : PW P Gl B c env st (andThen (fun env' st' => φ ∧ Le env' E ∧ StLe (st'.take S.length) S) Q)) (hK : φ → PW P Gl B y E S Q) : PW P Gl B c env st (andThen (fun env st => PW P Gl B y env st Q) Q) :=
 h.mono fun e env' st' hh => by
  cases e with
  | normal => exact pw_cut hD hn hr hh.2.1 hh.2.2 (hK hh.1)
  | _ => exact hh
theorem v_takeM {α : Type} {e : α → PV} {t : TypeId} {x : Operand} {hi : Option Operand} {xs : List α} {m : Nat} (hT : Tys P tys) (ho : o.op = .slice t x none hi none) {el s b z1 z2 : Nat} {z3 : Option (List PV)} (ht : tys[t]? = some ⟨.sl el s b, z1, z2, z3⟩)
  (hx : pe env x = .sl (xs.map e)) (hh : bnd env (xs.map e).length hi = some (m : Int)) (h2 : m ≤ xs.length) (hs : ∀ x, (e x).cells.length = s) : OpV P Gl B o env (.sl ((xs.take m).map e)) := by
 have := v_slice (P := P) (Gl := Gl) (B := B) (o := o) (env := env) (l := 0) (h := (m : Int)) hT ho ht hx rfl hh (Int.le_refl _) (by omega) (by simp; omega) (by simp only [List.mem_map]; rintro _ ⟨y, _, rfl⟩; exact hs y)
 simpa [List.map_take] using this
theorem v_dropM {α : Type} {e : α → PV} {t : TypeId} {x : Operand} {lo : Option Operand} {xs : List α} {m : Nat} (hT : Tys P tys) (ho : o.op = .slice t x lo none none) {el s b z1 z2 : Nat} {z3 : Option (List PV)} (ht : tys[t]? = some ⟨.sl el s b, z1, z2, z3⟩)
  (hx : pe env x = .sl (xs.map e)) (hh : bnd env 0 lo = some (m : Int)) (h2 : m ≤ xs.length) (hs : ∀ x, (e x).cells.length = s) : OpV P Gl B o env (.sl ((xs.drop m).map e)) := by
 have := v_slice (P := P) (Gl := Gl) (B := B) (o := o) (env := env) (l := (m : Int)) (h := ((xs.map e).length : Int)) hT ho ht hx hh rfl (by omega) (by simp; omega) (by simp) (by simp only [List.mem_map]; rintro _ ⟨y, _, rfl⟩; exact hs y)
 rw [List.take_of_length_le (by simp)] at this
 simpa [List.map_drop] using this
end
end Go.Pw
namespace Go.Pw
open Go
section
variable {P : Program} {Gl : Glob} {B : Base} {tys : List TI} {env : List PV} {st : List PObj} {o : Oper} {K : PV → List PObj → Prop}
theorem op_boxF {t : TypeId} {x : Operand} (ho : o.op = .box t x) {p : PV} (hp : (pe env x).force (fun v => (v, ())) = (p, ())) (hk : p.okPart = true) (hK : K (.ptr st.length 0) (st ++ [.box p.cells])) : OpP P Gl B o env st K :=
 op_box ho (by rw [PV.force_eq] at hp; exact (Prod.mk.inj hp).1) hk hK
theorem op_storeF {t : TypeId} {a x : Operand} (hT : Tys P tys) (ho : o.op = .store t a x) {p : PV} {i off : Nat} {cs : List PV} {ti : TI} (ht : tys[t]? = some ti)
  (ha : pe env a = .ptr i off) (hp : (pe env x).force (fun v => (v, ())) = (p, ())) (hs : st[i]? = some (.box cs)) (hk : p.okPart = true) (h1 : p.cells.all PV.one = true) (hsz : p.cells.length = ti.size) (hle : off + ti.size ≤ cs.length)
  (hK : K .any (st.set i (.box (splice cs off p.cells)))) : OpP P Gl B o env st K :=
 op_store hT ho ht ha (by rw [PV.force_eq] at hp; exact (Prod.mk.inj hp).1) hs hk h1 hsz hle hK
end
structure Kp (X : Prop) : Prop where
 out : X
def keepX : List PV → List PV → List PV
 | x :: xs, y :: ys => match y with
  | .any => keepX xs ys
  | _ => x :: keepX xs ys
 | _, _ => []
def keepY : List PV → List PV
 | y :: ys => match y with
  | .any => keepY ys
  | _ => y :: keepY ys
 | [] => []
theorem LeBy.sel (n : Nat) : ∀ {xs ys : List PV}, keepX xs ys = keepY ys → Nat.beq xs.length ys.length = true → LeBy (PLe (n + 1)) xs ys
 | [], [], _, _ => trivial
 | [], _ :: _, _, h => by cases h
 | _ :: _, [], _, h => by cases h
 | x :: xs, y :: ys, h, hl => by
  have hl' : Nat.beq xs.length ys.length = true := hl
  by_cases hy : y = .any
  ·subst hy
   exact ⟨.inl rfl, LeBy.sel n h hl'⟩
  ·have e1 : keepX (x :: xs) (y :: ys) = x :: keepX xs ys := by cases y <;> first | rfl | exact (hy rfl).elim
   have e2 : keepY (y :: ys) = y :: keepY ys := by cases y <;> first | rfl | exact (hy rfl).elim
   rw [e1, e2] at h
   injection h with h1 h2
   exact ⟨.inr (.inl h1), LeBy.sel n h2 hl'⟩
theorem zNp {G X : Prop} (k : X) (h : Kp X → G := by (intro zk; (first | refine pl_norm rfl ?_ | refine pl_normE rfl ?_); exact Kp.out zk)) : G := h ⟨k⟩
theorem zDn {G X : Prop} (k : X) (h : Kp X → G := by (intro zk; (first | refine po_norm rfl ?_ | refine po_normE rfl ?_); exact Kp.out zk)) : G := h ⟨k⟩
theorem zLe {X : Prop} (h : X := by (first | exact Go.Pw.LeBy.sel 1 rfl rfl | (repeat (first | exact True.intro | refine ⟨.inr (.inl rfl), ?_⟩ | refine ⟨.inl rfl, ?_⟩ | refine ⟨.inr (.inr (.inl ⟨rfl, rfl⟩)), ?_⟩ | refine ⟨.inr (.inr (.inr (.inl ⟨rfl, _, _, rfl⟩))), ?_⟩)))) : X := h
theorem zLes {X : Prop} (h : X := by (repeat (first | exact True.intro | refine ⟨.inl rfl, ?_⟩ | refine ⟨.inr (.inl rfl), ?_⟩))) : X := h
theorem zLok {X : Prop} (h : X := by (repeat (first | exact True.intro | refine ⟨.inr rfl, ?_⟩ | refine ⟨.inl (by decide +kernel), ?_⟩))) : X := h
theorem zGo {G X : Prop} (k : X) (h : Kp X → G := by (intro zk; (repeat (first | refine pl_pure hT rfl ?_ | refine pl_nil ?_ | refine pw_seq ?_ | refine pw_region ?_ | refine pw_block ?_ | refine pl_gpure hT rfl ?_ | refine pw_skip ?_ | (refine pl_op rfl (op_boxF rfl rfl rfl ?_); (first | refine pl_norm rfl ?_ | refine pl_normE rfl ?_)) | (refine pl_op rfl (op_alloc hT rfl rfl ?_); (first | refine pl_norm rfl ?_ | refine pl_normE rfl ?_)) | (refine pl_op rfl (op_storeF hT rfl rfl rfl rfl rfl rfl rfl rfl (Nat.le_of_ble_eq_true rfl) ?_); (first | refine pl_norm rfl ?_ | refine pl_normE rfl ?_)) | (refine pl_op rfl (op_litF hT rfl rfl rfl rfl rfl (by decide) rfl rfl rfl rfl ?_); (first | refine pl_norm rfl ?_ | refine pl_normE rfl ?_)) | (refine pl_op rfl (op_of (v_arith rfl rfl rfl rfl (wrap_i64 (by omega) (by omega))) ?_); (first | refine pl_norm rfl ?_ | refine pl_normE rfl ?_)) | refine pw_condT rfl ?_ | refine pw_condF rfl ?_ | refine pw_exit ?_ | refine pw_ret ?_ | (refine pl_on rfl rfl (op_of (v_arith rfl rfl rfl rfl (wrap_i64 (by omega) (by omega))) ?_); (first | refine pl_norm rfl ?_ | refine pl_normE rfl ?_)))); exact Kp.out zk)) : G := h ⟨k⟩
theorem zGom {G X : Prop} (k : X) (h : Kp X → G := by (intro zk; (repeat (first | refine pl_pure hT rfl ?_ | refine pl_nil ?_ | refine pw_seq ?_ | refine pw_region ?_ | refine pw_block ?_ | refine pl_gpure hT rfl ?_ | refine pw_skip ?_ | (refine pl_op rfl (op_boxF rfl rfl rfl ?_); (first | refine pl_norm rfl ?_ | refine pl_normE rfl ?_)) | (refine pl_op rfl (op_alloc hT rfl rfl ?_); (first | refine pl_norm rfl ?_ | refine pl_normE rfl ?_)) | (refine pl_op rfl (op_storeF hT rfl rfl rfl rfl rfl rfl rfl rfl (Nat.le_of_ble_eq_true rfl) ?_); (first | refine pl_norm rfl ?_ | refine pl_normE rfl ?_)) | (refine pl_op rfl (op_of (v_arith rfl rfl rfl rfl (wrap_i64 (by omega) (by omega))) ?_); (first | refine pl_norm rfl ?_ | refine pl_normE rfl ?_)) | refine pw_condT rfl ?_ | refine pw_condF rfl ?_ | refine pw_exit ?_ | refine pw_ret ?_ | (refine pl_on rfl rfl (op_of (v_arith rfl rfl rfl rfl (wrap_i64 (by omega) (by omega))) ?_); (first | refine pl_norm rfl ?_ | refine pl_normE rfl ?_)))); exact Kp.out zk)) : G := h ⟨k⟩
theorem zDgo {G X : Prop} (k : X) (h : Kp X → G := by (intro zk; (repeat (first | refine po_free hT rfl ?_ | refine po_nil ?_ | (refine po_step rfl rfl (op_boxF rfl rfl rfl ⟨(by (repeat (first | exact True.intro | refine ⟨.inr rfl, ?_⟩ | refine ⟨.inl (by decide +kernel), ?_⟩))), ?_⟩); (first | refine po_norm rfl ?_ | refine po_normE rfl ?_)) | (refine po_step rfl rfl (op_alloc hT rfl rfl ⟨(by (repeat (first | exact True.intro | refine ⟨.inr rfl, ?_⟩ | refine ⟨.inl (by decide +kernel), ?_⟩))), ?_⟩); (first | refine po_norm rfl ?_ | refine po_normE rfl ?_)) | (refine po_step rfl rfl (op_storeF hT rfl rfl rfl rfl rfl rfl rfl rfl (Nat.le_of_ble_eq_true rfl) ⟨(by (repeat (first | exact True.intro | refine ⟨.inr rfl, ?_⟩ | refine ⟨.inl (by decide +kernel), ?_⟩))), ?_⟩); (first | refine po_norm rfl ?_ | refine po_normE rfl ?_)) | (refine po_off rfl rfl rfl (by decide) ?_; (first | refine po_norm rfl ?_ | refine po_normE rfl ?_)) | (refine po_offN rfl rfl rfl ?_; (first | refine po_norm rfl ?_ | refine po_normE rfl ?_)) | (refine po_gval rfl rfl rfl (v_arith rfl rfl rfl rfl (wrap_i64 (by omega) (by omega))) ?_; (first | refine po_norm rfl ?_ | refine po_normE rfl ?_)) | (refine po_val rfl rfl (v_arith rfl rfl rfl rfl (wrap_i64 (by omega) (by omega))) ?_; (first | refine po_norm rfl ?_ | refine po_normE rfl ?_)))); exact Kp.out zk)) : G := h ⟨k⟩
end Go.Pw
