/-
  Loops whose rounds make objects of their own; the frame at a loop's head.
  Maps with strings for keys; elements of arrays behind a pointer; scopes.
  Calls to which arrays of the caller's own are lent: the callee reads them as rows, and behind the call they are the caller's own again.
  Elements of arrays of the function's own, read and written in place; operations whose pure value is shown, not reckoned.
  Two ways of a test, joined behind it; calls to which the arrays below a number are lent.
  Rows copied into arrays of the function's own.
  '==' of structs whose fields are plain.
  '==' of Booleans.
  The library's proved summaries as contracts over pure values.
  What comes in as data reads as pure values whose cells never change.
  From a contract over pure values to the statement of a law: every input answers true, and reads behind the call as it did.
  Arrays of one's own: their room, elements written, parts given up as rows.
  More ways to join, and other rules of the walk.
  The chains of rules that a walk repeats, each under one name.
  Strings of bytes: the conversion of a slice of bytes to a string.
-/
import Derived.Test.YtdehdgbdcfkpbaaGreatDoorJPwDraw
import Derived.Scope
import Derived.MapKept
import Derived.Test.YtdehdgbdcfkpbaaGreatDoorJPwCore
import Derived.Below
import Derived.Deep.Draws
import Derived.Carry
import Derived.HandedShaped
import Derived.ProofKit
import Derived.Laws.BytesString
namespace Go.Pw
open Go

section rules
variable {P : Program} {Gl : Glob} {B : Base} {tys : List TI} {env : List PV} {st : List PObj} {Q : Post} {A : Nat → Prop} {w : World} {β : List Nat} {tmps : List Value}

theorem StLe.dead : ∀ (xs : List PObj), StLe xs (xs.map fun _ => .dead)
  | [] => trivial
  | _ :: xs => ⟨.inr (.inl rfl), StLe.dead xs⟩
theorem StLe.append : ∀ {xs ys us vs : List PObj}, StLe xs ys → StLe us vs → StLe (xs ++ us) (ys ++ vs)
  | [], [], _, _, _, h => h
  | _ :: _, _ :: _, _, _, ⟨h1, h2⟩, h => ⟨h1, h2.append h⟩

/-- The first n objects, with less said of them; the others are given up. -/
theorem Inv.cut {st0 st' : List PObj} (hi : Inv Gl B A w β st) (hD : ∀ j, B.D j = dOf st0 j) (hn : st0.length ≤ st'.length) (hs : StLe (st.take st'.length) st') (hr : st'.all (PObj.refs (fun i => decide (i < st'.length)) 5) = true) :
    Inv Gl B A w (β.take st'.length) st' := by
  have h1 : StLe st (st' ++ (st.drop st'.length).map fun _ => .dead) := by
    have := hs.append (StLe.dead (st.drop st'.length))
    rwa [List.take_append_drop] at this
  have h2 := hi.weaken h1
  have ht : (st' ++ (st.drop st'.length).map fun _ => PObj.dead).take st'.length = st' := List.take_left' rfl
  have hg : ∀ {i b : Nat}, (β.take st'.length)[i]? = some b → β[i]? = some b := fun {i b} h => by
    rw [List.getElem?_take] at h
    split at h
    · exact h
    · cases h
  have lv : ∀ {i : Nat}, liveAt st' i → liveAt (st' ++ (st.drop st'.length).map fun _ => PObj.dead) i ∧ i < st'.length := fun {i} ⟨o, h1, h2⟩ => by
    have hl := (List.getElem?_eq_some_iff.1 h1).1
    exact ⟨⟨o, by rw [List.getElem?_append_left hl]; exact h1, h2⟩, hl⟩
  refine ⟨?_, ?_, ?_, ?_, ?_, hi.lt, hi.new, hi.old, hi.size, hi.os, hi.tape, hi.output, hi.keep, hi.glob, fun i b h3 h4 => ?_, hi.apart⟩
  · have := h2.len; simp at this; simp; omega
  · intro i j b h3 h4 l1 l2; exact h2.inj i j b (hg h3) (hg h4) (lv l1).1 (lv l2).1
  · intro i b o h3 h4
    have hl := (List.getElem?_eq_some_iff.1 h4).1
    have := (h2.obj i b o (hg h3) (by rw [List.getElem?_append_left hl]; exact h4)).ren (β' := β.take st'.length) (r := fun i => i) (fun k c hk hc => by
      simp only [decide_eq_true_eq] at hk
      rw [List.getElem?_take, if_pos hk]; exact hc) (List.all_eq_true.1 hr o (List.mem_of_getElem? h4))
    rwa [PObj.ren_id] at this
  · intro i b h3 l1; exact h2.notA i b (hg h3) (lv l1).1
  · intro i b h3 l1; exact h2.own i b (hg h3) (lv l1).1
  · have hlt : i < st0.length := by
      rw [hD] at h3
      unfold dOf at h3
      cases hx : st0[i]? with
      | none => rw [hx] at h3; cases h3
      | some x => exact (List.getElem?_eq_some_iff.1 hx).1
    rw [List.getElem?_take, if_pos (by omega)]; exact hi.pre i b h3 h4

theorem EnvRel.cut {n : Nat} {env' : List PV} (he : EnvRel A w β env tmps) (hl : Le env env') (hr : env'.all (PV.refs (fun i => decide (i < n)) 5) = true) : EnvRel A w (β.take n) env' tmps := by
  have h := he.weaken hl
  refine ⟨h.1, fun j p v hp hv => ?_⟩
  exact (h.2 j p v hp hv).refsBelow (List.all_eq_true.1 hr p (List.mem_of_getElem? hp))

/-- A loop: what stands in the frame's slots and in the store at each round's head, by a parameter; and a measure. -/
theorem pw_for {α : Type} {c : Code} {st0 : List PObj} (hD : ∀ j, B.D j = dOf st0 j) (V : α → List (Nat × PV)) (S : α → List PObj) (I : α → Prop) (μ : α → Nat) (a₀ : α) (h₀ : I a₀) {ds : List Nat} {E : α → List PV} (n : Nat)
    (_hds : (forceN (dstsOf c) fun l => (l, ())) = (ds, ())) (_hV : ∀ a, (headK ds (V a) 0 env fun e => (e, ())) = (E a, ())) (hS : StLe (st.take (S a₀).length) (S a₀)) (hn : ∀ a, (Nat.ble st0.length n && Nat.beq (S a).length n) = true) (hr : ∀ a, ((E a).all (PV.refs (fun i => Nat.blt i n) 5) && (S a).all (PObj.refs (fun i => Nat.blt i n) 5)) = true)
    (hE : Le env (E a₀))
    (round : ∀ a, I a → PW P Gl B c (E a) (S a) (andThen (fun env' st' => ∃ a', I a' ∧ μ a' < μ a ∧ Le env' (E a') ∧ StLe (st'.take (S a').length) (S a')) Q)) : PW P Gl B (.loop c) env st Q := fun A w β tmps hi he => by
  have hlt : (fun i => Nat.blt i n) = fun i => decide (i < n) := by
    funext i
    exact Bool.eq_iff_iff.2 (by simp)
  have hSn : ∀ a, (S a).length = n ∧ st0.length ≤ (S a).length := fun a => by
    have := hn a
    simp only [Bool.and_eq_true] at this
    have h1 := Nat.eq_of_beq_eq_true this.2
    exact ⟨h1, by rw [h1]; exact Nat.le_of_ble_eq_true this.1⟩
  have hr' : ∀ a, (E a).all (PV.refs (fun i => decide (i < (S a).length)) 5) = true ∧ (S a).all (PObj.refs (fun i => decide (i < (S a).length)) 5) = true := fun a => by
    have := hr a
    rw [hlt, ← (hSn a).1] at this
    simpa only [Bool.and_eq_true] using this
  refine wp_loop_ghost (fun x a' w' => ∃ A' β' t', a' = ⟨List.toArray t', []⟩ ∧ I x ∧ Inv Gl B A' w' β' (S x) ∧ EnvRel A' w' β' (E x) t') μ a₀ ⟨A, β.take (S a₀).length, tmps, rfl, h₀, hi.cut hD (hSn _).2 hS (hr' _).2, he.cut hE (hr' _).1⟩ ?_
  rintro x a' w' ⟨A', β', t', rfl, hx, h1, h2⟩
  refine wp_mono (round x hx A' w' β' t' h1 h2) ?_
  rintro e a₂ w₂ r'
  cases e with
  | normal =>
    obtain ⟨env', st', A₂, β₂, t₂, rfl, ⟨x', g1, g2, g3, g4⟩, g5, g6⟩ := r'
    exact ⟨x', ⟨A₂, β₂.take (S x').length, t₂, rfl, g1, g5.cut hD (hSn _).2 g4 (hr' _).2, g6.cut g3 (hr' _).1⟩, g2⟩
  | _ => exact r'
end rules
end Go.Pw
namespace Go.Pw
open Go
section pred
variable {P : Program} {Gl : Glob} {B : Base} {env : List PV} {st : List PObj} {o : Oper}

theorem PObj.ren_none {r : Nat → Nat} {cs : List PV} (h : cs.all (PV.refs (fun _ => false) 5) = true) : (PObj.box cs).ren r 5 = .box cs := by
  simp only [PObj.ren]
  rw [List.map_congr_left (g := fun x => x) (fun p hp => PV.ren_none 5 p (List.all_eq_true.1 h p hp))]; simp

theorem mergeAux_id (sel : List Nat) (st' : List PObj) : ∀ (l : List PObj) k, (∀ j, sel.contains j = true → k ≤ j → j - k < l.length → st'.getD (sel.idxOf j) .dead = l.getD (j - k) .dead) → mergeAux sel st' k l = l := by
  intro l
  induction l with
  | nil => intro k _; rfl
  | cons x l ih =>
    intro k h
    simp only [mergeAux]
    rw [ih (k + 1) (fun j hj hk hl => by
      have := h j hj (by omega) (by simp; omega)
      rw [this, show j - k = (j - (k + 1)) + 1 by omega]; rfl)]
    by_cases hc : sel.contains k = true
    · rw [if_pos hc]
      have := h k hc (Nat.le_refl _) (by simp)
      rw [Nat.sub_self] at this
      rw [this]; rfl
    · rw [if_neg hc]

/-- A call of a function value that looks at one box, the first, and says yes or no. -/
theorem op_pred {K : PV → List PObj → Prop} {fop x : Operand} {ats : Array TypeId} {f : FuncId} {cs : List PV} {v : PV} {b : Bool} {st' : List PObj} (hcs : cs.all (PV.refs (fun _ => false) 5) = true) (hc : PCalls P Gl f [v, .ptr 0 0] [.box cs] fun r s => r = .bool b ∧ s = [.box cs])
    (ho : o.op = .call ⟨.value fop, #[x], ats⟩) (hf : pe env fop = .fn f [.ptr 0 0]) (hx : pe env x = v) (hv : v.refs (fun _ => false) 5 = true) (hent : Enters P f) (hst : st = .box cs :: st') (hK : K (.bool b) st) : OpP P Gl B o env st K := by
  subst hst
  refine op_call [0] ho hf hent (by simp) rfl ?_ ?_ (cargs := [v, .ptr 0 0]) (cst := [.box cs]) ?_ ?_ hc ?_
  · simp only [List.map_cons, List.map_nil, List.cons_append, List.nil_append, hx, List.all_cons, List.all_nil, Bool.and_true, Bool.and_eq_true]
    exact ⟨PV.refs_mono (fun _ h => by cases h) 5 v hv, rfl⟩
  · simp only [List.all_cons, List.all_nil, Bool.and_true, List.getD_cons_zero, PObj.refs]
    exact List.all_eq_true.2 fun p hp => PV.refs_mono (fun _ h => by cases h) 5 p (List.all_eq_true.1 hcs p hp)
  · simp only [List.map_cons, List.map_nil, List.cons_append, List.nil_append, hx, PV.ren_none 5 v hv]
    exact ⟨.inr (.inl rfl), .inr (.inl rfl), trivial⟩
  · simp only [selSt, List.map_cons, List.map_nil, List.getD_cons_zero, PObj.ren_none hcs]
    exact StLe.refl _
  · rintro r s ⟨rfl, rfl⟩
    have hm : merge [0] (.box cs :: st') ([.box cs].map (PObj.ren (idxOut [0] (PObj.box cs :: st').length) 5)) = .box cs :: st' := by
      simp only [List.map_cons, List.map_nil, PObj.ren_none hcs, merge, List.length_cons, List.length_nil, List.drop_succ_cons, List.drop_nil, List.append_nil]
      refine mergeAux_id [0] _ _ 0 fun j hj hk hl => ?_
      have : j = 0 := by simpa using hj
      subst this
      rfl
    refine ⟨rfl, ?_, ?_⟩
    · simp only [List.all_cons, List.all_nil, Bool.and_true, PObj.refs]
      exact List.all_eq_true.2 fun p hp => PV.refs_true (List.all_eq_true.1 hcs p hp)
    · rw [hm]; exact hK
end pred
end Go.Pw
namespace Go.Pw
theorem box1 {cs : List PV} (h : cs.all (PV.refs (fun _ => false) 5) = true) (d : Nat → Bool) : [PObj.box cs].all (PObj.refs d 5) = true := by
  simp only [List.all_cons, List.all_nil, Bool.and_true, PObj.refs]
  exact List.all_eq_true.2 fun p hp => PV.refs_mono (fun _ h => by cases h) 5 p (List.all_eq_true.1 h p hp)
theorem both {a b : Bool} (h1 : a = true) (h2 : b = true) : (a && b) = true := by rw [h1, h2]; rfl
end Go.Pw
namespace Go.Pw
open Go

section rules
variable {P : Program} {Gl : Glob} {B : Base} {tys : List TI} {env : List PV} {st : List PObj} {ops : Array Oper} {rest : List Oper} {o : Oper} {Q : Post}
  {A : Nat → Prop} {w : World} {β : List Nat} {tmps : List Value}

/-- Behind a scope. -/
theorem pw_scope {c : Code} (h : PW P Gl B c env st Q) (hq : ∀ l env st, ¬ Q (.goto l) env st) : PW P Gl B (.scope c) env st Q := fun A w β tmps hi he => by
  refine wp_scope_straight (wp_mono (h A w β tmps hi he) ?_)
  rintro e a' w' ⟨env', st', A', β', t', h1, h2, h3⟩
  cases e with
  | goto l => exact (hq l _ _ h2).elim
  | _ => exact ⟨env', st', A', β', t', h1, h2, h3⟩

/-- An element of an array behind a pointer. -/
theorem v_indexA {t : TypeId} {x y : Operand} {i off : Nat} {k : IntKind} {n : Int} (hT : Tys P tys) (ho : o.op = .indexAddr t x y) {len e s z1 z2 : Nat} {z3 : Option (List PV)} (ht : tys[t]? = some ⟨.arr len e s, z1, z2, z3⟩)
    (hx : pe env x = .ptr i off) (hy : pe env y = .int k n) (h0 : 0 ≤ n) (h1 : n < len) : OpV P Gl B o env (.ptr i (off + n.toNat * s)) := fun _ A w β tmps _ he => by
  obtain ⟨ti, d, hi1, hu, htk, _⟩ := tyOf_spec (hT _ _ ht)
  obtain ⟨rfl, hse⟩ := tkOf_arr htk
  have hd := he.eval [] x
  rw [hx] at hd
  obtain ⟨bb, hb, hv⟩ := hd.ptr_inv
  refine ⟨.pointer (some ⟨bb, off + n.toNat * s, none⟩), ?_, .ptr _ _ _ _ hb⟩
  have hc : 0 ≤ n ∧ n < ((len : Nat) : Int) := ⟨h0, h1⟩
  simp only [execOp, ho, int_of he hy, hv, Instr.indexAt, asIntOf, Sem.run_bind, Sem.run_pure, Result.andThen_ok, run_underlying hu, Instr.sureAddr, if_pos hc, run_size hse, addr_add]

/-! ### maps -/
theorem op_mkmap {K : PV → List PObj → Prop} {t : TypeId} (ho : o.op = .makeMap t none) (hK : K (.map st.length) (st ++ [.map []])) : OpP P Gl B o env st K := fun A w β tmps Q hi he => by
  unfold Oper.wp
  have hrun : (execOp (⟨tmps.toArray, []⟩ : Act).eval o).run P w = .ok (.value (.map (some w.heap.size))) (w.alloc (.map #[] 0)) := by
    simp only [execOp, ho, Instr.makeMap, Option.map_none, Sem.run_bind, run_newObj_alloc, Result.andThen_ok, Sem.run_pure]
  rw [hrun]
  have hlen := hi.len
  refine ⟨_, _, _, A, β ++ [w.heap.size], rfl, hK, .map _ _ _ (by rw [← hlen]; simp), hi.snoc _ _ ?_, hi.ext_alloc _, Pre.snoc _ _⟩
  refine ⟨[], 0, ?_, rfl, by intro j k v h; simp at h⟩
  show (w.heap.push _)[w.heap.size]? = _
  simp

theorem ba_beq (s t : ByteArray) : (s == t) = decide (s = t) := by
  rcases s with ⟨a⟩
  rcases t with ⟨b⟩
  show (a == b) = _
  by_cases h : a = b
  · subst h; simp
  · have : ¬ (ByteArray.mk a = ByteArray.mk b) := fun e => h (by injection e)
    simp [h]

theorem findNow_none (s : ByteArray) : ∀ (es : List MapEntry) (i : Nat), (∀ e ∈ es, ∃ t : ByteArray, e.key = .string t ∧ ¬ s = t) → Instr.findNow .string (.string s) es i = some none
  | [], i, _ => rfl
  | e :: es, i, h => by
    obtain ⟨t, h1, h2⟩ := h e (by simp)
    have : (s == t) = false := by rw [ba_beq]; simpa using h2
    simp only [Instr.findNow, h1, Instr.sameNow, this]
    exact findNow_none s es (i + 1) fun e he => h e (by simp [he])
theorem findNow_some (s : ByteArray) : ∀ (es : List MapEntry) (i j : Nat) (e : MapEntry), es[j]? = some e → e.key = .string s → (∀ k e, k < j → es[k]? = some e → ∃ t : ByteArray, e.key = .string t ∧ ¬ s = t) → Instr.findNow .string (.string s) es i = some (some (i + j, e.val))
  | [], i, j, e, h, _, _ => by simp at h
  | x :: es, i, 0, e, h, hk, _ => by
    simp at h; subst h
    simp [Instr.findNow, hk, Instr.sameNow, ba_beq]
  | x :: es, i, j + 1, e, h, hk, hno => by
    obtain ⟨t, h1, h2⟩ := hno 0 x (by omega) rfl
    have : (s == t) = false := by rw [ba_beq]; simpa using h2
    simp only [Instr.findNow, h1, Instr.sameNow, this]
    rw [findNow_some s es (i + 1) j e (by simpa using h) hk fun k e hk he => hno (k + 1) e (by omega) (by simpa using he)]
    congr 3; omega

theorem tkOf_map {d : TypeDesc} {k e : TypeId} (h : TK.map k e = tkOf P d) : d = .map k e := by
  cases d <;> simp only [tkOf] at h <;> first | (cases h; done) | (cases h; rfl) | skip
  all_goals (split at h <;> cases h)

theorem run_checkKey {b : Bool} {k : TypeId} {s : ByteArray} (hk : P.underlying k = some .string) : (Instr.checkKey b 10000 k (.string s)).run P w = .ok () w :=
  MapKept.run_checkKey hk (show MapKept.IsKey .string (.string s) from trivial) b 9999

theorem bytes_ne {s t : List UInt8} (h : ¬ s = t) : ¬ ((⟨s.toArray⟩ : ByteArray) = ⟨t.toArray⟩) := fun e => h (by
  have := congrArg (fun x : ByteArray => x.data.toList) e
  simpa using this)

/-- An entry with a new key. -/
theorem op_insert {K : PV → List PObj → Prop} {t k e : TypeId} {z1 z2 y1 y2 : Nat} {z3 y3 : Option (List PV)} {m x v : Operand} {i : Nat} {s : List UInt8} {p : PV} {es : List (List UInt8 × PV)} (hT : Tys P tys) (ho : o.op = .insert t m x v) (ht : tys[t]? = some ⟨.map k e, z1, z2, z3⟩) (htk : tys[k]? = some ⟨.str, y1, y2, y3⟩)
    (hm : pe env m = .map i) (hx : pe env x = .str s) (hv : pe env v = p) (hst : st[i]? = some (.map es)) (hnew : es.all (fun e => !(e.1 == s)) = true) (hK : K .any (st.set i (.map (es ++ [(s, p)])))) : OpP P Gl B o env st K := fun A w β tmps Q hi he => by
  obtain ⟨ti, d, hi1, hu, htk1, _⟩ := tyOf_spec (hT _ _ ht)
  have := tkOf_map htk1
  subst this
  obtain ⟨ti2, d2, hi2, hu2, htk2, _⟩ := tyOf_spec (hT _ _ htk)
  have := tkOf_str htk2
  subst this
  have hdm := he.eval [] m
  rw [hm] at hdm
  obtain ⟨b, hb, hvm⟩ : ∃ b, β[i]? = some b ∧ (⟨tmps.toArray, []⟩ : Act).eval m = .map (some b) := by
    generalize (⟨tmps.toArray, []⟩ : Act).eval m = u at hdm
    cases hdm with | map _ _ b hb => exact ⟨b, hb, rfl⟩
  have hdv := he.eval [] v
  rw [hv] at hdv
  obtain ⟨mes, cl, h1, h2, h3⟩ := hi.obj i b _ hb hst
  have hno : ∀ e ∈ mes, ∃ t : ByteArray, e.key = .string t ∧ ¬ (⟨s.toArray⟩ : ByteArray) = t := by
    intro e hem
    obtain ⟨j, hj⟩ := List.mem_iff_getElem?.1 hem
    have hlt : j < es.length := by rw [← h2]; exact (List.getElem?_eq_some_iff.1 hj).1
    obtain ⟨e', g1, g2, _⟩ := h3 j es[j].1 es[j].2 (List.getElem?_eq_getElem hlt)
    rw [hj] at g1
    cases g1
    refine ⟨_, g2, bytes_ne fun hs => ?_⟩
    have := List.all_eq_true.1 hnew es[j] (List.getElem_mem hlt)
    simp [hs] at this
  let ent : MapEntry := { key := .string ⟨s.toArray⟩, val := (⟨tmps.toArray, []⟩ : Act).eval v, born := cl }
  have hset : (w.heap.setIfInBounds b (.map (mes.toArray.push ent) (cl + 1)))[b]? = some (.map (mes ++ [ent]).toArray (cl + 1)) := by
    have hlt : b < w.heap.size := by
      rcases Nat.lt_or_ge b w.heap.size with h | h
      · exact h
      · rw [Array.getElem?_eq_none h] at h1; cases h1
    rw [Array.getElem?_setIfInBounds_self_of_lt hlt]
    simp
  unfold Oper.wp
  have hrun : (execOp (⟨tmps.toArray, []⟩ : Act).eval o).run P w = .ok .skip { w with heap := w.heap.setIfInBounds b (.map (mes.toArray.push ent) (cl + 1)) } := by
    simp only [execOp, ho, Instr.mapUpdate, Sem.run_bind, run_underlying hu, Result.andThen_ok, hvm, MapKept.run_getObj_map h1, str_of he hx, run_checkKey hu2, Instr.findKey, run_underlying hu2, findNow_none _ _ _ hno, Sem.run_pure, MapKept.run_setObj_map _ h1]
    rfl
  rw [hrun]
  have hother : ∀ k, k ≠ b → (w.heap.setIfInBounds b (.map (mes.toArray.push ent) (cl + 1)))[k]? = w.heap[k]? := fun k hk => by
    rw [Array.getElem?_setIfInBounds_ne (by omega)]
  have hE : Ext A w A { w with heap := w.heap.setIfInBounds b (.map (mes.toArray.push ent) (cl + 1)) } :=
    ⟨fun _ h => h, fun k hk => hother k (fun e => hi.notA i b hb ⟨_, hst, rfl⟩ (e ▸ hk))⟩
  obtain ⟨hi', hE'⟩ := hi.write (x := .map (es ++ [(s, p)])) hb hst rfl (w' := { w with heap := w.heap.setIfInBounds b (.map (mes.toArray.push ent) (cl + 1)) }) (by simp) rfl rfl rfl hother (by
    refine ⟨_, _, hset, by simp [h2], fun j k v' hj => ?_⟩
    by_cases hjl : j < es.length
    · rw [List.getElem?_append_left hjl] at hj
      obtain ⟨e', g1, g2, g3⟩ := h3 j k v' hj
      exact ⟨e', by rw [List.getElem?_append_left (by omega)]; exact g1, g2, g3.mono hE (.refl _)⟩
    · rw [List.getElem?_append_right (by omega)] at hj
      cases hz : j - es.length with
      | zero =>
        rw [hz] at hj
        simp at hj
        obtain ⟨rfl, rfl⟩ := hj
        exact ⟨_, by rw [List.getElem?_append_right (by omega), h2, hz]; rfl, rfl, hdv.mono hE (.refl _)⟩
      | succ n => rw [hz] at hj; simp at hj)
  exact ⟨_, .any, _, A, β, rfl, hK, .any .., hi', hE', .refl _⟩

/-- A lookup that finds its key. -/
theorem op_lookup {K : PV → List PObj → Prop} {t k e : TypeId} {z1 z2 y1 y2 : Nat} {z3 y3 : Option (List PV)} {m x : Operand} {i j : Nat} {s : List UInt8} {p : PV} {es : List (List UInt8 × PV)} (hT : Tys P tys) (ho : o.op = .lookup t m x true) (ht : tys[t]? = some ⟨.map k e, z1, z2, z3⟩) (htk : tys[k]? = some ⟨.str, y1, y2, y3⟩)
    (hm : pe env m = .map i) (hx : pe env x = .str s) (hst : st[i]? = some (.map es)) (hj : es[j]? = some (s, p)) (hno : (es.take j).all (fun e => !(e.1 == s)) = true) (hK : K (.tup [p, .bool true]) st) : OpP P Gl B o env st K := by
  refine op_val (x := .tup [p, .bool true]) (fun A w β tmps hi he => ?_) hK
  obtain ⟨ti, d, hi1, hu, htk1, _⟩ := tyOf_spec (hT _ _ ht)
  have := tkOf_map htk1
  subst this
  obtain ⟨ti2, d2, hi2, hu2, htk2, _⟩ := tyOf_spec (hT _ _ htk)
  have := tkOf_str htk2
  subst this
  have hdm := he.eval [] m
  rw [hm] at hdm
  obtain ⟨b, hb, hvm⟩ : ∃ b, β[i]? = some b ∧ (⟨tmps.toArray, []⟩ : Act).eval m = .map (some b) := by
    generalize (⟨tmps.toArray, []⟩ : Act).eval m = u at hdm
    cases hdm with | map _ _ b hb => exact ⟨b, hb, rfl⟩
  obtain ⟨mes, cl, h1, h2, h3⟩ := hi.obj i b _ hb hst
  obtain ⟨e', g1, g2, g3⟩ := h3 j s p hj
  have hf := findNow_some ⟨s.toArray⟩ mes 0 j e' g1 g2 (fun q e hq he => by
    have hlt : q < es.length := by rw [← h2]; exact (List.getElem?_eq_some_iff.1 he).1
    obtain ⟨e2, q1, q2, _⟩ := h3 q es[q].1 es[q].2 (List.getElem?_eq_getElem hlt)
    rw [he] at q1
    cases q1
    refine ⟨_, q2, bytes_ne fun hs => ?_⟩
    have := List.all_eq_true.1 hno es[q] (List.mem_of_getElem? (by rw [List.getElem?_take, if_pos hq]; exact List.getElem?_eq_getElem hlt))
    simp [hs] at this)
  refine ⟨.tuple #[e'.val, .bool true], ?_, .tup _ _ [e'.val, .bool true] rfl fun q c v hc hv => ?_⟩
  · simp only [execOp, ho, Instr.lookup, Sem.run_bind, run_underlying hu, Result.andThen_ok, hvm, MapKept.run_getObj_map h1, str_of he hx, run_checkKey hu2, Instr.findKey, run_underlying hu2, hf, Sem.run_pure, if_true]
  · match q with
    | 0 => simp at hc hv; subst hc hv; exact g3
    | 1 => simp at hc hv; subst hc hv; exact .bool ..
    | q + 2 => simp at hc
/-- A lookup that does not. -/
theorem op_lookup0 {K : PV → List PObj → Prop} {t k e : TypeId} {z1 z2 y1 y2 x1 x2 : Nat} {tk : TK} {z3 y3 : Option (List PV)} {m x : Operand} {i : Nat} {s : List UInt8} {es : List (List UInt8 × PV)} (hT : Tys P tys) (ho : o.op = .lookup t m x true) (ht : tys[t]? = some ⟨.map k e, z1, z2, z3⟩) (htk : tys[k]? = some ⟨.str, y1, y2, y3⟩) (hte : tys[e]? = some ⟨tk, x1, x2, some [.nilfn]⟩)
    (hm : pe env m = .map i) (hx : pe env x = .str s) (hst : st[i]? = some (.map es)) (hno : es.all (fun e => !(e.1 == s)) = true) (hK : K (.tup [.any, .bool false]) st) : OpP P Gl B o env st K := by
  refine op_val (x := .tup [.any, .bool false]) (fun A w β tmps hi he => ?_) hK
  obtain ⟨ti, d, hi1, hu, htk1, _⟩ := tyOf_spec (hT _ _ ht)
  have := tkOf_map htk1
  subst this
  obtain ⟨ti2, d2, hi2, hu2, htk2, _⟩ := tyOf_spec (hT _ _ htk)
  have := tkOf_str htk2
  subst this
  obtain ⟨ti3, d3, hi3, hu3, htk3, _, _, hz3⟩ := tyOf_spec (hT _ _ hte)
  have hdm := he.eval [] m
  rw [hm] at hdm
  obtain ⟨b, hb, hvm⟩ : ∃ b, β[i]? = some b ∧ (⟨tmps.toArray, []⟩ : Act).eval m = .map (some b) := by
    generalize (⟨tmps.toArray, []⟩ : Act).eval m = u at hdm
    cases hdm with | map _ _ b hb => exact ⟨b, hb, rfl⟩
  obtain ⟨mes, cl, h1, h2, h3⟩ := hi.obj i b _ hb hst
  have hf := findNow_none ⟨s.toArray⟩ mes 0 (fun e hem => by
    obtain ⟨j, hj⟩ := List.mem_iff_getElem?.1 hem
    have hlt : j < es.length := by rw [← h2]; exact (List.getElem?_eq_some_iff.1 hj).1
    obtain ⟨e', g1, g2, _⟩ := h3 j es[j].1 es[j].2 (List.getElem?_eq_getElem hlt)
    rw [hj] at g1
    cases g1
    refine ⟨_, g2, bytes_ne fun hs => ?_⟩
    have := List.all_eq_true.1 hno es[j] (List.getElem_mem hlt)
    simp [hs] at this)
  cases hzv : ti3.zero with
  | none => rw [hzv] at hz3; cases hz3
  | some zv =>
    have hz : (zeroValue e).run P w = .ok zv w := by simp [zeroValue, run_info hi3, hzv]
    refine ⟨.tuple #[zv, .bool false], ?_, .tup _ _ [zv, .bool false] rfl fun q c v hc hv => ?_⟩
    · simp only [execOp, ho, Instr.lookup, Sem.run_bind, run_underlying hu, Result.andThen_ok, hvm, MapKept.run_getObj_map h1, str_of he hx, run_checkKey hu2, Instr.findKey, run_underlying hu2, hf, Sem.run_pure, if_true, hz]
    · match q with
      | 0 => simp at hc hv; subst hc hv; exact .any ..
      | 1 => simp at hc hv; subst hc hv; exact .bool ..
      | q + 2 => simp at hc
end rules
end Go.Pw
namespace Go.Pw
open Go
/-- Nothing of it lies in memory that may change. -/
def PV.plain : Nat → PV → Bool
  | 0, _ => false
  | n + 1, p => match p with
    | .any | .bool _ | .int _ _ | .str _ | .nilptr | .gptr _ _ | .nilsl | .nilmap | .nilfn | .niliface => true
    | .agg cs => cs.all (PV.plain n)
    | .tup cs => cs.all (PV.plain n)
    | _ => false
def PObj.plain : PObj → Bool
  | .box cs => cs.all (PV.plain 4)
  | .dead => true
  | _ => false
section
variable {P : Program} {Gl : Glob} {B : Base} {tys : List TI} {env : List PV} {st : List PObj} {A : Nat → Prop} {w : World} {β β' : List Nat}
theorem Den.plain {A' : Nat → Prop} {w' : World} : ∀ (n : Nat) {p : PV} {v : Value}, Den A w β p v → p.plain n = true → Den A' w' β' p v
  | 0, p, v, _, h => by simp [PV.plain] at h
  | n + 1, p, v, hd, h => by
    cases hd with
    | any => exact .any ..
    | bool => exact .bool ..
    | int => exact .int ..
    | str => exact .str ..
    | nilptr => exact .nilptr ..
    | gptr => exact .gptr ..
    | nilsl => exact .nilsl ..
    | nilmap => exact .nilmap ..
    | nilfn => exact .nilfn ..
    | niliface => exact .niliface ..
    | agg _ cs vs hl hd =>
      simp only [PV.plain] at h
      exact .agg _ _ _ hl fun j c v hc hv => Den.plain n (hd j c v hc hv) (List.all_eq_true.1 h c (List.mem_of_getElem? hc))
    | tup _ cs vs hl hd =>
      simp only [PV.plain] at h
      exact .tup _ _ _ hl fun j c v hc hv => Den.plain n (hd j c v hc hv) (List.all_eq_true.1 h c (List.mem_of_getElem? hc))
    | _ => simp [PV.plain] at h
theorem op_lend {o : Oper} {K : PV → List PObj → Prop} {fop : Operand} {args : Array Operand} {ats : Array TypeId} {f : FuncId} {full full' : List PV} {Q : PV → List PObj → Prop} (F : Nat → Bool) (sel : List Nat) {stF : List PObj}
    (ho : o.op = .call ⟨.value fop, args, ats⟩) (hf : calleeP (pe env fop) (args.toList.map (pe env)) = some (f, full)) (hent : Enters P f) (hnd : sel.Nodup) (hlive : sel.all (fun i => (st.getD i .dead).stays && !(F i)) = true)
    (hsF : FSt F st 0 st stF) (hlF : sel.all (fun i => (stF.getD i .dead).live) = true) (hfF : LeBy (FLe F st 3) full full') (hrefs : full'.all (PV.refs sel.contains 5) = true) (hobjs : sel.all (fun i => (stF.getD i .dead).refs sel.contains 5) = true)
    {cargs : List PV} {cst : List PObj} (hle : Le (full'.map (PV.ren (idxIn sel) 5)) cargs) (hls : StLe (selSt sel stF) cst) (hc : PCalls P Gl f cargs cst Q)
    (hK : ∀ r st', Q r st' → r.plain 3 = true ∧ st'.all PObj.plain = true ∧ K r (mergeAux sel st' 0 st)) :
    OpP P Gl B o env st K := fun A w β tmps Q' hi he => by
  have hlen := hi.len
  obtain ⟨A1, hE1, hden1, hinv1⟩ := hi.freeze F
  have hiF : Inv Gl B A1 w β stF := hinv1 stF hsF
  have hlenF : stF.length = st.length := (FSt.len hsF).symm
  have hso : ∀ i ∈ sel, ∃ x, stF[i]? = some x ∧ x.live = true := fun i h => by
    have := List.all_eq_true.1 hlF i h
    cases hx : stF[i]? with
    | none => simp [List.getD, hx, PObj.live] at this
    | some x => exact ⟨x, rfl, by simpa [List.getD, hx] using this⟩
  have hsb : ∀ i ∈ sel, ∃ b, β[i]? = some b := fun i h => by
    obtain ⟨x, hx, _⟩ := hso i h
    have : i < β.length := by rw [hlen, ← hlenF]; exact (List.getElem?_eq_some_iff.1 hx).1
    exact ⟨_, List.getElem?_eq_getElem this⟩
  let γ : List Nat := sel.map fun i => β.getD i 0
  have hγ : ∀ {j b : Nat}, γ[j]? = some b → ∃ i, sel[j]? = some i ∧ β[i]? = some b := by
    intro j b h
    simp only [γ, List.getElem?_map] at h
    cases hx : sel[j]? with
    | none => rw [hx] at h; cases h
    | some i =>
      rw [hx] at h
      cases h
      obtain ⟨b', hb'⟩ := hsb i (List.mem_of_getElem? hx)
      exact ⟨i, rfl, by simp [List.getD, hb']⟩
  have hin : ∀ (i b : Nat), sel.contains i = true → β[i]? = some b → γ[idxIn sel i]? = some b := by
    intro i b h hb
    have hm : i ∈ sel := by simpa using h
    have hlt := List.idxOf_lt_length_of_mem hm
    simp only [γ, idxIn, List.getElem?_map, List.getElem?_eq_getElem hlt, List.getElem_idxOf hlt, Option.map_some, List.getD, hb, Option.getD_some]
  have hrl : ∀ (y : PObj) (r : Nat → Nat) n, (y.ren r n).live = y.live := fun y r n => by cases y <;> rfl
  have hrs : ∀ (y : PObj) (r : Nat → Nat) n, (y.ren r n).stays = y.stays := fun y r n => by cases y <;> rfl
  have hcst : ∀ {j : Nat} {x : PObj}, (selSt sel stF)[j]? = some x → ∃ i y, sel[j]? = some i ∧ stF[i]? = some y ∧ x = y.ren (idxIn sel) 5 ∧ y.refs sel.contains 5 = true := by
    intro j x h
    simp only [selSt, List.getElem?_map] at h
    cases hx : sel[j]? with
    | none => rw [hx] at h; cases h
    | some i =>
      rw [hx] at h
      cases h
      obtain ⟨y, hy, hl⟩ := hso i (List.mem_of_getElem? hx)
      have hr := List.all_eq_true.1 hobjs i (List.mem_of_getElem? hx)
      simp only [List.getD, hy, Option.getD_some] at hr ⊢
      exact ⟨i, y, rfl, hy, rfl, hr⟩
  have hlv : ∀ {j : Nat}, liveAt (selSt sel stF) j → ∃ i, sel[j]? = some i ∧ liveAt stF i := fun {j} ⟨x, hx, hl⟩ => by
    obtain ⟨i, y, h1, h2, rfl, _⟩ := hcst hx
    exact ⟨i, h1, y, h2, by rw [hrl] at hl; exact hl⟩
  have hjj : ∀ {j k i : Nat}, sel[j]? = some i → sel[k]? = some i → j = k := fun {j k i} h1 h2 => by
    obtain ⟨l1, e1⟩ := List.getElem?_eq_some_iff.1 h1
    obtain ⟨l2, e2⟩ := List.getElem?_eq_some_iff.1 h2
    have hp := List.pairwise_iff_getElem.1 hnd
    rcases Nat.lt_trichotomy j k with h | h | h
    · exact (hp j k l1 l2 h (e1.trans e2.symm)).elim
    · exact h
    · exact (hp k j l2 l1 h (e2.trans e1.symm)).elim
  have hK0 : ∀ {b : Nat}, (base0 A1 w γ (selSt sel stF)).K b → ∃ i, i ∈ sel ∧ β[i]? = some b ∧ liveAt stF i := fun {b} ⟨j, hj, hl⟩ => by
    obtain ⟨i1, s1, b1⟩ := hγ hj
    obtain ⟨i2, s2, l2⟩ := hlv hl
    rw [s1] at s2; cases s2
    exact ⟨i1, List.mem_of_getElem? s1, b1, l2⟩
  have hic0 : Inv Gl (base0 A1 w γ (selSt sel stF)) A1 w γ (selSt sel stF) := by
    have hr := hiF.rebase
    refine ⟨by simp [γ, selSt], ?_, ?_, ?_, ?_, hiF.lt, fun b h => .inl h, fun b h => h, Nat.le_refl _, rfl, rfl, rfl, fun _ _ _ => rfl, ?_, fun i b _ h => h, fun b hb => ⟨fun hk => ?_, hiF.lt b hb⟩⟩
    · intro j k b h1 h2 l1 l2
      obtain ⟨i1, s1, b1⟩ := hγ h1
      obtain ⟨i2, s2, b2⟩ := hγ h2
      obtain ⟨i1', t1, v1⟩ := hlv l1
      obtain ⟨i2', t2, v2⟩ := hlv l2
      rw [s1] at t1; cases t1
      rw [s2] at t2; cases t2
      have := hiF.inj i1 i2 b b1 b2 v1 v2
      subst this
      exact hjj s1 s2
    · intro j b x h1 h2
      obtain ⟨i1, s1, b1⟩ := hγ h1
      obtain ⟨i2, y, s2, hy, rfl, hr⟩ := hcst h2
      rw [s1] at s2; cases s2
      exact (hiF.obj i1 b y b1 hy).ren hin hr
    · intro j b h1 l1
      obtain ⟨i1, s1, b1⟩ := hγ h1
      obtain ⟨i1', t1, v1⟩ := hlv l1
      rw [s1] at t1; cases t1
      exact hiF.notA i1 b b1 v1
    · intro j b h1 l1; exact .inl ⟨j, h1, l1⟩
    · intro b hb
      obtain ⟨g1, g2, g3⟩ := hr.glob b hb
      refine ⟨g1, fun hm => ?_, g3⟩
      obtain ⟨i1, s1, b1, v1⟩ := hK0 hm
      exact g2 ⟨i1, b1, v1⟩
    · obtain ⟨i1, s1, b1, v1⟩ := hK0 hk
      exact hiF.notA i1 b b1 v1 hb
  have hic := (hic0.weaken hls).rebase
  have hKsel : ∀ {b : Nat}, (base0 A1 w γ cst).K b → ∃ i, i ∈ sel ∧ β[i]? = some b ∧ liveAt stF i := fun {b} ⟨j, hj, o, ho, hl⟩ => by
    refine hK0 ⟨j, hj, ?_⟩
    obtain ⟨q, hq, hr⟩ := hls.get j o ho
    rcases hr with rfl | rfl | ⟨cs, ds, rfl, rfl, _⟩
    · exact ⟨_, hq, hl⟩
    · cases hl
    · exact ⟨_, hq, rfl⟩
  -- what lives in the frozen store lives in the store
  have hliveF : ∀ {i : Nat}, liveAt stF i → liveAt st i ∧ F i = false := fun {i} ⟨o, h1, h2⟩ => by
    obtain ⟨x, hx, hh⟩ := FSt.get hsF i o h1
    rw [Nat.zero_add] at hh
    rcases hh with ⟨_, rfl⟩ | ⟨hF, rfl | rfl | ⟨cs, ds, rfl, rfl, _⟩⟩
    · cases h2
    · cases h2
    · exact ⟨⟨_, hx, h2⟩, hF⟩
    · exact ⟨⟨_, hx, rfl⟩, hF⟩
  obtain ⟨fv, hfl, hfd, hrun⟩ := calleeP_run (P := P) (o := o) he ho hf hent
  have hargs : ArgRel A1 w γ (full'.map (PV.ren (idxIn sel) 5)) fv := by
    have hl' := LeBy.len hfF
    refine ⟨by simp [← hl', hfl], fun j p v hp hv => ?_⟩
    rw [List.getElem?_map] at hp
    cases hx : full'[j]? with
    | none => rw [hx] at hp; cases hp
    | some x =>
      rw [hx] at hp
      cases hp
      obtain ⟨q, hq, hr⟩ := LeBy.get hfF j x hx
      exact Den.ren hin 5 (hden1 3 q x v hr (hfd j q v hq hv)) (List.all_eq_true.1 hrefs x (List.mem_of_getElem? hx))
  have hcall := hc A1 w γ _ hic (hargs.weaken hle)
  unfold Oper.wp
  rw [hrun]
  refine hcall.mono ?_
  rintro e w' ⟨r, v, st', A', β', rfl, hq, hd, hi'⟩
  obtain ⟨hr1, hr2, hk⟩ := hK r st' hq
  have hlen' := hi'.len
  have hP : ∀ (j b : Nat), γ[j]? = some b → β'[j]? = some b := fun j b hj => by
    refine hi'.pre j b ?_ hj
    obtain ⟨i1, s1, b1⟩ := hγ hj
    have hs0 := List.all_eq_true.1 hlive i1 (List.mem_of_getElem? s1)
    rw [Bool.and_eq_true, Bool.not_eq_true'] at hs0
    have hjl : j < cst.length := by rw [← hls.len]; simp only [selSt, List.length_map]; exact (List.getElem?_eq_some_iff.1 s1).1
    have hcj : cst[j]? = some cst[j] := List.getElem?_eq_getElem hjl
    show ((cst[j]?).map PObj.stays).getD false = true
    rw [hcj]
    obtain ⟨q, hq, hr⟩ := hls.get j _ hcj
    simp only [selSt, List.getElem?_map, s1, Option.map_some] at hq
    cases hq
    obtain ⟨y, hy, hyl⟩ := hso i1 (List.mem_of_getElem? s1)
    have hys : y.stays = true := by
      obtain ⟨x, hx, hh⟩ := FSt.get hsF i1 y hy
      rw [Nat.zero_add] at hh
      have h0 := hs0.1
      simp only [List.getD, hx, Option.getD_some] at h0
      rcases hh with ⟨_, rfl⟩ | ⟨hF, rfl | rfl | ⟨cs, ds, rfl, rfl, _⟩⟩
      · cases hyl
      · cases hyl
      · exact h0
      · rfl
    simp only [List.getD, hy, Option.getD_some] at hr
    rcases hr with hr | hr | ⟨cs, ds, h1, h2, _⟩
    · show cst[j].stays = true
      rw [← hr, hrs]; exact hys
    · rw [hr]; rfl
    · rw [h2]; rfl
  have hAsub : ∀ b, A b → A1 b := hE1.sub
  have hkeepA : ∀ b, A b → w'.heap[b]? = w.heap[b]? := fun b hb => by
    refine hi'.keep b (hi.lt b hb) fun hm => ?_
    obtain ⟨i1, s1, b1, v1⟩ := hKsel hm
    exact hi.notA i1 b b1 (hliveF v1).1 hb
  have hExt : Ext A w A w' := ⟨fun _ h => h, hkeepA⟩
  have hkeep : ∀ {i b : Nat}, β[i]? = some b → liveAt st i → i ∉ sel → w'.heap[b]? = w.heap[b]? := by
    intro i b hb hl hns
    refine hi'.keep b ((hi.obj i b _ hb hl.choose_spec.1).lt hl.choose_spec.2) (fun hm => ?_)
    obtain ⟨i1, s1, b1, v1⟩ := hKsel hm
    have := hi.inj i i1 b hb b1 hl (hliveF v1).1
    subst this
    exact hns s1
  have hsz : w.heap.size ≤ w'.heap.size := hi'.size
  have hmg := mergeAux_get sel st' st 0
  have hml := mergeAux_len sel st' st 0
  -- what lives behind the call lived before it
  have hlvM : ∀ {i : Nat}, liveAt (mergeAux sel st' 0 st) i → i ∈ sel ∨ (liveAt st i ∧ i ∉ sel) := fun {i} ⟨x, hx, hl⟩ => by
    by_cases hm : i ∈ sel
    · exact .inl hm
    · rw [hmg, Nat.zero_add] at hx
      rw [show sel.contains i = false by simpa using hm] at hx
      cases hs : st[i]? with
      | none => rw [hs] at hx; cases hx
      | some y => rw [hs] at hx; simp at hx; subst hx; exact .inr ⟨⟨_, hs, hl⟩, hm⟩
  have hselLive : ∀ {i : Nat}, i ∈ sel → liveAt st i := fun {i} h => by
    obtain ⟨x, hx, hl⟩ := hso i h
    exact (hliveF ⟨x, hx, hl⟩).1
  have hall : ∀ {i : Nat}, liveAt (mergeAux sel st' 0 st) i → liveAt st i := fun {i} h => by
    rcases hlvM h with h | h
    · exact hselLive h
    · exact h.1
  have hfin : Inv Gl B A w' β (mergeAux sel st' 0 st) := by
    refine ⟨hlen.trans hml.symm, fun i j b h1 h2 l1 l2 => hi.inj i j b h1 h2 (hall l1) (hall l2), ?_, fun i b h1 l1 => hi.notA i b h1 (hall l1), fun i b h1 l1 => hi.own i b h1 (hall l1), fun b hb => Nat.lt_of_lt_of_le (hi.lt b hb) hsz, hi.new, hi.old, Nat.le_trans hi.size hsz,
      hi'.os.trans hi.os, hi'.tape.trans hi.tape, hi'.output.trans hi.output, fun b hb hbk => ?_, hi.glob, hi.pre, hi.apart⟩
    · intro i b x h1 hx
      by_cases hm : i ∈ sel
      · rw [hmg, Nat.zero_add, show sel.contains i = true by simpa using hm] at hx
        cases hs : st[i]? with
        | none => rw [hs] at hx; cases hx
        | some y =>
          rw [hs] at hx
          simp only [Option.map_some, if_true, Option.some.injEq] at hx
          have hlt := List.idxOf_lt_length_of_mem hm
          have hgj : γ[sel.idxOf i]? = some b := hin i b (by simpa using hm) h1
          have hbj := hP _ b hgj
          cases hj : st'[sel.idxOf i]? with
          | none => rw [List.getD, hj] at hx; subst hx; trivial
          | some z =>
            rw [List.getD, hj] at hx
            simp only [Option.getD_some] at hx
            subst hx
            have hz := hi'.obj _ b z hbj hj
            have hzp := List.all_eq_true.1 hr2 z (List.mem_of_getElem? hj)
            cases z with
            | dead => trivial
            | box cs =>
              obtain ⟨vs, T, fr, g1, g2, g3, g4⟩ := hz
              refine ⟨vs, T, fr, g1, g2, g3, fun j c v hc hv => (g4 j c v hc hv).plain 4 (List.all_eq_true.1 hzp c (List.mem_of_getElem? hc))⟩
            | _ => simp [PObj.plain] at hzp
      · rw [hmg, Nat.zero_add, show sel.contains i = false by simpa using hm] at hx
        cases hs : st[i]? with
        | none => rw [hs] at hx; cases hx
        | some y =>
          rw [hs] at hx
          simp at hx
          subst hx
          by_cases hl : y.live = true
          · exact (hi.obj i b y h1 hs).mono hExt (Pre.refl _) (hkeep h1 ⟨y, hs, hl⟩ hm)
          · exact (hi.obj i b y h1 hs).still (by simpa using hl)
    · by_cases hm : (base0 A1 w γ cst).K b
      · obtain ⟨i1, s1, b1, v1⟩ := hKsel hm
        rcases hi.own i1 b b1 (hliveF v1).1 with hh | hh
        · exact (hbk hh).elim
        · omega
      · exact (hi'.keep b (Nat.lt_of_lt_of_le hb hi.size) hm).trans (hi.keep b hb hbk)
  exact ⟨v, r, mergeAux sel st' 0 st, A, β, rfl, hk, hd.plain 3 hr1, hfin, hExt, Pre.refl _⟩
end
end Go.Pw
namespace Go.Pw
open Go
section
variable {P : Program} {Gl : Glob} {B : Base} {tys : List TI} {env : List PV} {st : List PObj} {ops : Array Oper} {rest : List Oper} {o : Oper} {Q : Post}
/-- An operation whose pure value is shown. -/
theorem op_pure {K : PV → List PObj → Prop} {x : PV} (hT : Tys P tys) (h : pureOp tys st env o.op = some x) (hK : K x st) : OpP P Gl B o env st K :=
  op_val (fun _ _ _ _ hi he => pureOp_sound hT h hi he) hK
/-- The parts of a literal, each written out. -/
def forceV {α : Type} : List PV → (List PV → α) → α
  | [], k => k []
  | x :: xs, k => x.force fun x => forceV xs fun ys => k (x :: ys)
theorem forceV_eq {α : Type} : ∀ (l : List PV) (k : List PV → α), forceV l k = k l
  | [], k => rfl
  | x :: xs, k => by rw [forceV, PV.force_eq, forceV_eq xs]
def litF (env : List PV) (parts : List (Nat × Operand)) : Option (List PV) :=
  match litP env 0 parts with
  | some l => forceV l some
  | none => none
theorem op_litF {K : PV → List PObj → Prop} {T e s b z1 z2 : Nat} {z3 : Option (List PV)} {zl : List PV} {t1 : TK} {e1 e2 : Nat} {len : Nat} {parts : Array (Nat × Operand)} {xs : List PV} (hT : Tys P tys) (ho : o.op = .buildSlice T len parts) (ht : tys[T]? = some ⟨.sl e s b, z1, z2, z3⟩) (hte : tys[e]? = some ⟨t1, e1, e2, some zl⟩)
    (hx : litF env parts.toList = some xs) (hlen : len = parts.toList.length) (hs : 0 < s) (hsz : decide (len * s ≤ 16777216) = true) (h1 : xs.all PV.okPart = true) (h2 : xs.all (PV.refs (fun _ => false) 5) = true) (h3 : xs.all (fun x => x.cells.length == s) = true)
    (hK : K (.sl xs) st) : OpP P Gl B o env st K := by
  refine op_lit hT ho ht hte ?_ hlen hs hsz h1 h2 h3 hK
  unfold litF at hx
  split at hx
  · rename_i l hl; rw [forceV_eq] at hx; rw [hl]; exact hx
  · cases hx
/-- A cell of a box, at a place that is not written out. -/
theorem op_loadA {K : PV → List PObj → Prop} {t : TypeId} {a : Operand} {i off : Nat} {cs : List PV} {x : PV} {ti : TI} (hT : Tys P tys) (ho : o.op = .load t a) (ht : tys[t]? = some ti) (hk : ti.tk.known = true) (hag : ti.tk.agg = false)
    (ha : pe env a = .ptr i off) (hs : st[i]? = some (.box cs)) (hx : cs[off]? = some x) (hK : K x st) : OpP P Gl B o env st K :=
  op_pure hT (x := x) (by rw [ho]; simp only [pureOp, ht, hk, ha, hs, part?, hag, if_true]; exact hx) hK
/-- A cell of a box is written, at a place that is not written out. -/
theorem op_storeA {K : PV → List PObj → Prop} {t : TypeId} {a y : Operand} (hT : Tys P tys) (ho : o.op = .store t a y) {p : PV} {i off : Nat} {cs cs' : List PV} {ti : TI} (ht : tys[t]? = some ti)
    (ha : pe env a = .ptr i off) (hp : pe env y = p) (hs : st[i]? = some (.box cs)) (hk : p.okPart = true) (h1 : p.cells.all PV.one = true) (hsz : p.cells.length = ti.size) (hle : off + ti.size ≤ cs.length) (hcs : splice cs off p.cells = cs')
    (hK : K .any (st.set i (.box cs'))) : OpP P Gl B o env st K := op_store hT ho ht ha hp hs hk h1 hsz hle (by rw [hcs]; exact hK)
theorem splice_get {α : Type} (vs us : List α) (a n : Nat) (h : a + us.length ≤ vs.length) : (vs.take a ++ us ++ vs.drop (a + us.length))[n]? = if a ≤ n ∧ n < a + us.length then us[n - a]? else vs[n]? := by
  have hta : (vs.take a).length = a := by simp; omega
  by_cases h1 : n < a
  · rw [if_neg (by omega), List.append_assoc, List.getElem?_append_left (by omega), List.getElem?_take_of_lt h1]
  · by_cases h2 : n < a + us.length
    · rw [if_pos ⟨by omega, h2⟩, List.append_assoc, List.getElem?_append_right (by omega), hta, List.getElem?_append_left (by omega)]
    · rw [if_neg (by omega), List.getElem?_append_right (by simp; omega), List.getElem?_drop]
      congr 1
      simp; omega
/-- An element of an array of the function's own, or a part of it. -/
theorem op_loadE {K : PV → List PObj → Prop} {t : TypeId} {a : Operand} {k i e off cap : Nat} {xs : List PV} {x0 x : PV} {ti : TI} (hT : Tys P tys) (ho : o.op = .load t a) (ht : tys[t]? = some ti) (hkn : ti.tk.known = true)
    (ha : pe env a = .eptr k i e off) (hs : st[i]? = some (.arr k xs cap)) (hcap : cap ≠ 0) (hx : xs[e]? = some x0) (hp : part? ti.tk.agg x0.cells off ti.size = some x) (hK : K x st) : OpP P Gl B o env st K := by
  refine op_val (fun A w β tmps hi he => ?_) hK
  have hda := he.eval [] a
  rw [ha] at hda
  obtain ⟨b, hb, hv⟩ := hda.eptr_inv
  obtain ⟨hl, hm, hc, h0⟩ := hi.obj _ _ _ hb hs
  obtain ⟨vs, T, fr, g1, g2, g3, g4⟩ := h0 hcap
  obtain ⟨ity, d, hi1, hut, htk, hts, _⟩ := tyOf_spec (hT _ _ ht)
  have hagg : ti.tk.agg = aggD d := tkOf_agg htk (fun y hy => by subst hy; intro h; rw [h] at hkn; cases hkn)
  have hcell : ∀ (j : Nat) c, x0.cells[j]? = some c → w.cell? ⟨b, e * k + j, none⟩ = some (vs.getD (e * k + j) undef) ∧ Den A w β c (vs.getD (e * k + j) undef) := by
    intro j c hj
    obtain ⟨v, hv, hd⟩ := g4 e x0 j c hx hj
    rw [obj_cell g1, List.getD, hv]
    exact ⟨rfl, hd.lift⟩
  obtain ⟨v, hr, hd⟩ := run_loadVar_cells (P := P) (A := A) (w := w) (β := β) x0.cells b (e * k) (fun j => vs.getD (e * k + j) undef) (fun j c hj => (hcell j c hj).1) (fun j c hj => (hcell j c hj).2) (s := ti.size) (off := off) (x := x) hut (by simp [szOf, hi1, hts]) (by rw [← hagg]; exact hp)
  refine ⟨v, ?_, hd⟩
  simp only [execOp, ho, hv, Instr.loadAt, Instr.sureAddr, Sem.run_bind, Sem.run_pure, Result.andThen_ok, hr]
/-- An element of an array of the function's own is written, or a part of it. -/
theorem op_storeE {K : PV → List PObj → Prop} {t : TypeId} {a y : Operand} {k i e off cap : Nat} {xs : List PV} {x0 x1 p : PV} {ti : TI} (hT : Tys P tys) (ho : o.op = .store t a y) (ht : tys[t]? = some ti)
    (ha : pe env a = .eptr k i e off) (hp : pe env y = p) (hs : st[i]? = some (.arr k xs cap)) (hcap : cap ≠ 0) (hx : xs[e]? = some x0) (hk : p.okPart = true) (h1 : p.cells.all PV.one = true) (hr : p.cells.all (PV.refs (fun _ => false) 5) = true) (hsz : p.cells.length = ti.size) (hle : off + ti.size ≤ x0.cells.length)
    (hx1 : x1.cells = splice x0.cells off p.cells) (hK : K .any (st.set i (.arr k (xs.set e x1) cap))) : OpP P Gl B o env st K := fun A w β tmps Q hi he => by
  have hda := he.eval [] a
  have hdx := he.eval [] y
  rw [ha] at hda
  rw [hp] at hdx
  obtain ⟨b, hb, hv⟩ := hda.eptr_inv
  obtain ⟨us, hu1, hu2, hu3⟩ := cells_den hdx hk
  obtain ⟨hl, hm, hc, h0⟩ := hi.obj _ _ _ hb hs
  obtain ⟨vs, T', fr, g1, g2, g3, g4⟩ := h0 hcap
  obtain ⟨ity, d, hi1, hut, htk, hts, _⟩ := tyOf_spec (hT _ _ ht)
  have hone : ∀ u ∈ us, u.oneCell' = true := by
    intro u hu
    obtain ⟨j, hj⟩ := List.mem_iff_getElem?.1 hu
    have hlt : j < p.cells.length := by rw [hu2]; exact (List.getElem?_eq_some_iff.1 hj).1
    have hcj : p.cells[j]? = some p.cells[j] := List.getElem?_eq_getElem hlt
    exact one_cell (hu3 j _ u hcj hj) (List.all_eq_true.1 h1 _ (List.getElem_mem hlt))
  have helt : e < xs.length := (List.getElem?_eq_some_iff.1 hx).1
  have hx0k : x0.cells.length = k := hc x0 (List.mem_of_getElem? hx)
  have hroom : e * k + off + us.length ≤ vs.length := by
    have h2 : (e + 1) * k ≤ cap * k := Nat.mul_le_mul_right k (by omega)
    rw [Nat.succ_mul] at h2
    omega
  have hlive : (PObj.arr k xs cap).live = true := by cases cap with | zero => exact absurd rfl hcap | succ n => rfl
  obtain ⟨w', r1, r2, r3, r4, r5, r6, r7⟩ := run_storeCells (P := P) b T' fr us 0 (e * k + off) vs w g1 (by omega) hone (by rw [g2]; exact g3)
  rw [Nat.add_zero] at r7
  have hE : Ext A w A w' := ⟨fun _ h => h, fun z hz => r6 z (fun eq => hi.notA i b hb ⟨_, hs, hlive⟩ (eq ▸ hz))⟩
  have hob : ObjRel A β w' b (.arr k (xs.set e x1) cap) := by
    have hx1l : x1.cells.length = k := by rw [hx1]; simp [splice]; omega
    refine ⟨by simpa using hl, hm, fun x hx' => ?_, fun _ => ⟨_, T', fr, r7, ?_, g3, ?_⟩⟩
    · rcases List.mem_or_eq_of_mem_set hx' with h | h
      · exact hc x h
      · rw [h]; exact hx1l
    · simp; omega
    · intro i' x j c hxi hcj
      rw [splice_get vs us _ _ hroom]
      rw [List.getElem?_set] at hxi
      by_cases hie : e = i'
      · subst hie
        rw [if_pos rfl, if_pos helt] at hxi
        cases hxi
        rw [hx1, splice, splice_get x0.cells p.cells off j (by omega)] at hcj
        by_cases hin : off ≤ j ∧ j < off + p.cells.length
        · rw [if_pos hin] at hcj
          rw [if_pos (by omega)]
          have hlt : j - off < us.length := by omega
          refine ⟨us[j - off], ?_, ?_⟩
          · rw [show e * k + j - (e * k + off) = j - off by omega]; exact List.getElem?_eq_getElem hlt
          · exact ((hu3 (j - off) c _ hcj (List.getElem?_eq_getElem hlt)).ground (List.all_eq_true.1 hr c (List.mem_of_getElem? hcj))).mono hE (Pre.refl _)
        · rw [if_neg hin] at hcj
          rw [if_neg (by omega)]
          obtain ⟨v, hv', hd⟩ := g4 e x0 j c hx hcj
          exact ⟨v, hv', hd.mono hE (Pre.refl _)⟩
      · rw [if_neg hie] at hxi
        have hjk : j < k := by
          have := hc x (List.mem_of_getElem? hxi)
          have := (List.getElem?_eq_some_iff.1 hcj).1
          omega
        rw [if_neg ?_]
        · obtain ⟨v, hv', hd⟩ := g4 i' x j c hxi hcj
          exact ⟨v, hv', hd.mono hE (Pre.refl _)⟩
        · rintro ⟨q1, q2⟩
          rcases Nat.lt_or_gt_of_ne hie with h | h
          · have h2 : (e + 1) * k ≤ i' * k := Nat.mul_le_mul_right k h
            rw [Nat.succ_mul] at h2
            omega
          · have h2 : (i' + 1) * k ≤ e * k := Nat.mul_le_mul_right k h
            rw [Nat.succ_mul] at h2
            omega
  obtain ⟨hi', hE'⟩ := hi.write hb hs hlive r2 r3 r4 r5 r6 hob
  unfold Oper.wp
  have hrun : (execOp (⟨tmps.toArray, []⟩ : Act).eval o).run P w = .ok .skip w' := by
    simp only [execOp, ho, Instr.storeAt, Sem.run_bind, hv, Instr.sureAddr, Sem.run_pure, Result.andThen_ok, storeVar]
    have hsz' : (sizeOf t).run P w = .ok ti.size w := run_size (by simp [szOf, hi1, hts]) w
    rw [hsz', Result.andThen_ok, if_neg (by rw [hu1]; simp; omega), hu1]
    simp only [r1, Result.andThen_ok]
  rw [hrun]
  exact ⟨_, .any, _, A, β, rfl, hK, .any .., hi', hE', .refl _⟩
/-- A call to which all arrays are lent, of a function that touches no object. -/
theorem op_lend0 {K : PV → List PObj → Prop} {fop : Operand} {args : Array Operand} {ats : Array TypeId} {f : FuncId} {full cargs : List PV} {R : PV → Prop} (hc : PFun P Gl f cargs R)
    (ho : o.op = .call ⟨.value fop, args, ats⟩) (hf : calleeP (pe env fop) (args.toList.map (pe env)) = some (f, full)) (hent : Enters P f) (hfF : LeBy (FLe (fun _ => true) st 3) full cargs)
    (hrefs : cargs.all (PV.refs (fun _ => false) 5) = true) (hK : ∀ r, R r → r.plain 3 = true ∧ K r st) : OpP P Gl B o env st K := by
  have hdead : ∀ (l : List PObj) (n : Nat), FSt (fun _ => true) st n l (l.map fun _ => .dead) := by
    intro l
    induction l with
    | nil => intro n; trivial
    | cons x l ih => intro n; exact ⟨rfl, ih (n + 1)⟩
  have hm0 : ∀ (st' : List PObj) (l : List PObj) n, mergeAux [] st' n l = l := by
    intro st' l
    induction l with
    | nil => intro n; rfl
    | cons x l ih => intro n; simp [mergeAux, ih]
  have hle : Le (cargs.map (PV.ren (idxIn []) 5)) cargs := by
    rw [List.map_congr_left (g := fun x => x) (fun x hx => PV.ren_none 5 x (List.all_eq_true.1 hrefs x hx)), List.map_id']
    clear hrefs hfF hc
    induction cargs with
    | nil => trivial
    | cons x l ih => exact ⟨.inr (.inl rfl), ih⟩
  refine op_lend (fun _ => true) [] ho hf hent List.nodup_nil rfl (hdead st 0) rfl hfF ?_ rfl hle (cst := []) trivial hc ?_
  · exact List.all_eq_true.2 fun x hx => PV.refs_mono (fun i h => by cases h) 5 x (List.all_eq_true.1 hrefs x hx)
  · rintro r st' ⟨hR, rfl⟩
    obtain ⟨h1, h2⟩ := hK r hR
    exact ⟨h1, rfl, by rw [hm0]; exact h2⟩
end
end Go.Pw
namespace Go.Pw
open Go
section
variable {P : Program} {Gl : Glob} {B : Base} {tys : List TI} {env : List PV} {st : List PObj} {ops : Array Oper} {rest : List Oper} {o : Oper} {Q : Post}
def killF (F : Nat → Bool) : Nat → List PObj → List PObj
  | _, [] => []
  | i, x :: xs => (match F i with | true => .dead | false => x) :: killF F (i + 1) xs
theorem killF_spec (F : Nat → Bool) (st : List PObj) : ∀ (l : List PObj) (i : Nat), FSt F st i l (killF F i l)
  | [], _ => trivial
  | x :: l, i => by
    refine ⟨?_, killF_spec F st l (i + 1)⟩
    cases F i with
    | true => exact rfl
    | false => exact .inr (.inl rfl)
/-- A call to which all objects below n are lent, and which is handed the objects of sel. -/
theorem op_lendF {K : PV → List PObj → Prop} {fop : Operand} {args : Array Operand} {ats : Array TypeId} {f : FuncId} {full full' : List PV} {Q : PV → List PObj → Prop} (n : Nat) (sel : List Nat)
    (_hfull : full' = full') {cargs : List PV} {cst : List PObj} (hc : PCalls P Gl f cargs cst Q)
    (ho : o.op = .call ⟨.value fop, args, ats⟩) (hf : calleeP (pe env fop) (args.toList.map (pe env)) = some (f, full)) (hent : Enters P f) (hnd : sel.Nodup) (hlive : sel.all (fun i => (st.getD i .dead).stays && !(Nat.blt i n)) = true)
    (hlF : sel.all (fun i => ((killF (fun i => Nat.blt i n) 0 st).getD i .dead).live) = true) (hfF : LeBy (FLe (fun i => Nat.blt i n) st 3) full full') (hrefs : full'.all (PV.refs sel.contains 5) = true) (hobjs : sel.all (fun i => ((killF (fun i => Nat.blt i n) 0 st).getD i .dead).refs sel.contains 5) = true)
    (hle : Le (full'.map (PV.ren (idxIn sel) 5)) cargs) (hls : StLe (selSt sel (killF (fun i => Nat.blt i n) 0 st)) cst)
    (hK : ∀ r st', Q r st' → r.plain 3 = true ∧ st'.all PObj.plain = true ∧ K r (mergeAux sel st' 0 st)) :
    OpP P Gl B o env st K :=
  op_lend (fun i => Nat.blt i n) sel ho hf hent hnd hlive (killF_spec _ st st 0) hlF hfF hrefs hobjs hle hls hc hK
theorem pw_cut {st0 : List PObj} (hD : ∀ j, B.D j = dOf st0 j) {c : Code} {E env' : List PV} {S st' : List PObj} {n : Nat} (hn : (Nat.ble st0.length n && Nat.beq S.length n) = true)
    (hr : (E.all (PV.refs (fun i => Nat.blt i n) 5) && S.all (PObj.refs (fun i => Nat.blt i n) 5)) = true) (hl : Le env' E) (hs : StLe (st'.take S.length) S) (h : PW P Gl B c E S Q) : PW P Gl B c env' st' Q := fun A w β tmps hi he => by
  have hlt : (fun i => Nat.blt i n) = fun i => decide (i < n) := by
    funext i
    exact Bool.eq_iff_iff.2 (by simp)
  simp only [Bool.and_eq_true] at hn
  have h1 := Nat.eq_of_beq_eq_true hn.2
  have h2 := Nat.le_of_ble_eq_true hn.1
  rw [hlt, ← h1] at hr
  simp only [Bool.and_eq_true] at hr
  exact h A w (β.take S.length) tmps (hi.cut hD (by omega) hs hr.2) (he.cut hl hr.1)
/-- What stands behind a test, walked once: what both ways leave, and a fact that holds behind both. -/
theorem pw_join {st0 : List PObj} (hD : ∀ j, B.D j = dOf st0 j) {c y : Code} (φ : Prop) (vs : List (Nat × PV)) (S : List PObj) (n : Nat) {ds : List Nat} {E : List PV} (_hds : (forceN (dstsOf c) fun l => (l, ())) = (ds, ())) (_hM : (headK ds vs 0 env fun e => (e, ())) = (E, ()))
    (hn : (Nat.ble st0.length n && Nat.beq S.length n) = true) (hr : (E.all (PV.refs (fun i => Nat.blt i n) 5) && S.all (PObj.refs (fun i => Nat.blt i n) 5)) = true)
    (h : PW P Gl B c env st (andThen (fun env' st' => φ ∧ Le env' E ∧ StLe (st'.take S.length) S) Q)) (hK : φ → PW P Gl B y E S Q) : PW P Gl B c env st (andThen (fun env st => PW P Gl B y env st Q) Q) :=
  h.mono fun e env' st' hh => by
    cases e with
    | normal => exact pw_cut hD hn hr hh.2.1 hh.2.2 (hK hh.1)
    | _ => exact hh
/-- The first elements of a row. -/
theorem v_takeM {α : Type} {e : α → PV} {t : TypeId} {x : Operand} {hi : Option Operand} {xs : List α} {m : Nat} (hT : Tys P tys) (ho : o.op = .slice t x none hi none) {el s b z1 z2 : Nat} {z3 : Option (List PV)} (ht : tys[t]? = some ⟨.sl el s b, z1, z2, z3⟩)
    (hx : pe env x = .sl (xs.map e)) (hh : bnd env (xs.map e).length hi = some (m : Int)) (h2 : m ≤ xs.length) (hs : ∀ x, (e x).cells.length = s) : OpV P Gl B o env (.sl ((xs.take m).map e)) := by
  have := v_slice (P := P) (Gl := Gl) (B := B) (o := o) (env := env) (l := 0) (h := (m : Int)) hT ho ht hx rfl hh (Int.le_refl _) (by omega) (by simp; omega) (by simp only [List.mem_map]; rintro _ ⟨y, _, rfl⟩; exact hs y)
  simpa [List.map_take] using this
/-- The last elements of a row. -/
theorem v_dropM {α : Type} {e : α → PV} {t : TypeId} {x : Operand} {lo : Option Operand} {xs : List α} {m : Nat} (hT : Tys P tys) (ho : o.op = .slice t x lo none none) {el s b z1 z2 : Nat} {z3 : Option (List PV)} (ht : tys[t]? = some ⟨.sl el s b, z1, z2, z3⟩)
    (hx : pe env x = .sl (xs.map e)) (hh : bnd env 0 lo = some (m : Int)) (h2 : m ≤ xs.length) (hs : ∀ x, (e x).cells.length = s) : OpV P Gl B o env (.sl ((xs.drop m).map e)) := by
  have := v_slice (P := P) (Gl := Gl) (B := B) (o := o) (env := env) (l := (m : Int)) (h := ((xs.map e).length : Int)) hT ho ht hx hh rfl (by omega) (by simp; omega) (by simp) (by simp only [List.mem_map]; rintro _ ⟨y, _, rfl⟩; exact hs y)
  rw [List.take_of_length_le (by simp)] at this
  simpa [List.map_drop] using this
end
end Go.Pw
namespace Go.Pw
open Go
section
variable {P : Program} {Gl : Glob} {B : Base} {tys : List TI} {env : List PV} {st : List PObj} {ops : Array Oper} {rest : List Oper} {o : Oper} {Q : Post}
def PObj.noMap : PObj → Bool
  | .map _ => false
  | _ => true
theorem Le.wipe (d : Nat → Bool) : ∀ (l : List PV), Le l (l.map (Pw.wipe d))
  | [] => trivial
  | x :: l => by
    refine ⟨?_, Le.wipe d l⟩
    unfold Pw.wipe
    split
    · exact .inr (.inl rfl)
    · exact .inl rfl
theorem StLe.wipe (d : Nat → Bool) : ∀ (l : List PObj), l.all PObj.noMap = true → StLe l (l.map (PObj.wipe d))
  | [], _ => trivial
  | x :: l, h => by
    simp only [List.all_cons, Bool.and_eq_true] at h
    refine ⟨?_, StLe.wipe d l h.2⟩
    cases x with
    | dead => exact .inl rfl
    | box cs => exact .inr (.inr ⟨_, _, rfl, rfl, Le.wipe d cs⟩)
    | arr k xs cap => exact .inl rfl
    | map es => cases h.1
/-- Nothing is appended to nothing. -/
theorem op_append0 {K : PV → List PObj → Prop} {T T2 s b i : Nat} {x y : Operand} (hT : Tys P tys) (ho : o.op = .call ⟨.builtin .append, #[x, y], #[T, T2]⟩) (hk : appOk tys T T2 s b = true) (hx : pe env x = .msl s i 0 0 0) (hy : pe env y = .sl [])
    (hK : K (.msl s i 0 0 0) st) : OpP P Gl B o env st K := by
  refine op_val (fun A w β tmps hi he => ?_) hK
  obtain ⟨e, tie, zv, ⟨hu, ⟨e2, hu2⟩, hie, hse, hbe, hzv, hzs⟩, hb0⟩ := appOk_spec hT hk
  have hdx := he.eval [] x
  have hdy := he.eval [] y
  rw [hx] at hdx
  rw [hy] at hdy
  obtain ⟨a, hvx⟩ := hdx.msl_any
  obtain ⟨a2, cap2, cs, hv, hf, hrow⟩ := run_first (P := P) hdy (k := s) (by simp)
  have hcs : cs = [] := List.eq_nil_of_length_eq_zero (by rw [hrow.1]; simp)
  subst hcs
  have hlenv : (Builtin.lenOf ((⟨tmps.toArray, []⟩ : Act).eval y)).run P w = .ok 0 w := by rw [hv]; rfl
  have hrun : (Builtin.append_ #[T, T2] o.type #[.slice a 0 0, (⟨tmps.toArray, []⟩ : Act).eval y]).run P w = .ok (.slice a 0 0) w := by
    cases a with
    | some a => exact run_fit hu hu2 (by simp [szOf, hie, hse]) (new := []) hlenv (hf w rfl) (Nat.le_refl _) o.type (by simp [storeCells])
    | none =>
      simp only [Builtin.append_, List.getElem?_toArray, List.getElem?_cons_zero, List.getElem?_cons_succ, Sem.run_bind, run_underlying hu, run_underlying hu2, Result.andThen_ok, run_size (show szOf P e = some s by simp [szOf, hie, hse]), Sem.run_pure, Bool.false_eq_true, if_false, hlenv]
      rw [if_pos (by omega)]
      have hf0 := hf w rfl
      simp only [List.length_nil] at hf0
      simp only [Sem.run_bind, hf0, Result.andThen_ok, Bool.not_false, if_true, Sem.run_pure]
  refine ⟨.slice a 0 0, ?_, .mslnil _ _ _ _ _⟩
  rw [run_callb (o := o) ho rfl, hvx, hrun]
  rfl
/-- A row is copied: 'append([]T{}, y...)'. -/
theorem pl_appendN {T T2 s b i : Nat} {x y : Operand} {ys : List PV} {st0 : List PObj} (hT : Tys P tys) (hD : ∀ j, B.D j = dOf st0 j) (hg : o.guard = none) (ho : o.op = .call ⟨.builtin .append, #[x, y], #[T, T2]⟩) (hk : appOk tys T T2 s b = true) (hx : pe env x = .msl s i 0 0 0) (hst : st[i]? = some (.arr s [] 0)) (hy : pe env y = .sl ys)
    (hd0 : dOk st0 i st.length = true) (hm : st.all PObj.noMap = true) (hs : ys.all (fun y => y.cells.length == s) = true) (hon : ys.all (fun y => y.cells.all PV.one) = true) (hbd : ys.length * b ≤ 140737488355328)
    (hr : ∀ cap', ys.length ≤ cap' → PWL P Gl B ops rest (putE (env.map (wipe fun j => decide (j < st.length) && j != i)) o.dst (.msl s i 0 ys.length cap')) ((st.map (PObj.wipe fun j => decide (j < st.length) && j != i)).set i (.arr s ys cap')) Q) :
    PWL P Gl B ops (o :: rest) env st Q := by
  by_cases h0 : ys = []
  · subst h0
    refine pl_op hg (op_append0 hT ho hk hx hy ?_)
    refine pl_weaken ?_ ?_ (hr 0 (Nat.le_refl _))
    · unfold putE
      cases o.dst with
      | none => exact Le.wipe _ env
      | some d =>
        show Le (env.set d _) ((env.map _).set d _)
        have : ∀ (l m : List PV) (d : Nat) (x : PV), Le l m → Le (l.set d x) (m.set d x) := by
          intro l
          induction l with
          | nil => intro m d x h; cases m with | nil => trivial | cons _ _ => cases h
          | cons a l ih =>
            intro m d x h
            cases m with
            | nil => cases h
            | cons c m =>
              cases d with
              | zero => exact ⟨.inr (.inl rfl), h.2⟩
              | succ d => exact ⟨h.1, ih m d x h.2⟩
        exact this _ _ d _ (Le.wipe _ env)
    · have h2 : (st.map (PObj.wipe fun j => decide (j < st.length) && j != i)).set i (.arr s [] 0) = st.map (PObj.wipe fun j => decide (j < st.length) && j != i) := by
        apply List.ext_getElem?
        intro j
        rw [List.getElem?_set]
        by_cases hij : i = j
        · subst hij
          rw [if_pos rfl, List.getElem?_map, hst]
          have := (List.getElem?_eq_some_iff.1 hst).1
          simp [this, PObj.wipe]
        · rw [if_neg hij]
      rw [h2]
      exact StLe.wipe _ st hm
  · have hpos : 0 < ys.length := List.length_pos_iff.2 h0
    refine pl_append hT hD hg ho hk hx hst rfl hy hd0 (.inl hpos) hs hon (by simpa using hbd) fun cap' h1 _ => ?_
    have := hr cap' (by simpa using h1)
    simpa using this
end
end Go.Pw
namespace Go.Pw
open Go
section
variable {P : Program} {Gl : Glob} {B : Base} {tys : List TI} {env : List PV} {st : List PObj} {Q : Post}
/-- What stands behind a piece of code, walked once: by a parameter. -/
theorem pw_joinX {α : Type} {st0 : List PObj} (hD : ∀ j, B.D j = dOf st0 j) {c y : Code} (φ : α → Prop) (V : α → List (Nat × PV)) (S : α → List PObj) (n : Nat) {ds : List Nat} {E : α → List PV} (_hds : (forceN (dstsOf c) fun l => (l, ())) = (ds, ())) (_hM : ∀ a, (headK ds (V a) 0 env fun e => (e, ())) = (E a, ()))
    (hn : ∀ a, (Nat.ble st0.length n && Nat.beq (S a).length n) = true) (hr : ∀ a, ((E a).all (PV.refs (fun i => Nat.blt i n) 5) && (S a).all (PObj.refs (fun i => Nat.blt i n) 5)) = true)
    (h : PW P Gl B c env st (andThen (fun env' st' => ∃ a, φ a ∧ Le env' (E a) ∧ StLe (st'.take (S a).length) (S a)) Q)) (hK : ∀ a, φ a → PW P Gl B y (E a) (S a) Q) : PW P Gl B c env st (andThen (fun env st => PW P Gl B y env st Q) Q) :=
  h.mono fun e env' st' hh => by
    cases e with
    | normal => obtain ⟨a, h1, h2, h3⟩ := hh; exact pw_cut hD (hn a) (hr a) h2 h3 (hK a h1)
    | _ => exact hh
end
end Go.Pw
namespace Go.Pw
open Go
/-- Whether two pure values are equal, by their type; fuel. -/
def eqFs (r : TypeId → PV → PV → Option Bool) (xs ys : List PV) : List (Nat × Nat × Bool × TypeId) → Option Bool
  | [] => some true
  | (o, s, ag, ft) :: l => match part? ag xs o s, part? ag ys o s with
    | some a, some b => match r ft a b, eqFs r xs ys l with
      | some p, some q => some (p && q)
      | _, _ => none
    | _, _ => none
def eqP (tys : List TI) : Nat → TypeId → PV → PV → Option Bool
  | 0, _, _, _ => none
  | d + 1, t, x, y => match tys[t]? with
    | some ⟨.bool, _, _, _⟩ => match x, y with
      | .bool a, .bool b => some (a == b)
      | _, _ => none
    | some ⟨.int _, _, _, _⟩ => match x, y with
      | .int k a, .int k' b => if k = k' then some (a == b) else none
      | _, _ => none
    | some ⟨.str, _, _, _⟩ => match x, y with
      | .str a, .str b => some (a == b)
      | _, _ => none
    | some ⟨.strct l, _, _, _⟩ => match x, y with
      | .agg xs, .agg ys => eqFs (eqP tys d) xs ys l
      | _, _ => none
    | _ => none
/-- What the comparison asks of a type, reckoned by the kernel. -/
def eqOk (P : Program) : Nat → TypeId → Bool
  | 0, _ => false
  | d + 1, t => match P.underlying t with
    | some (.struct fs) => !P.stoodInHeld t && fs.toList.all fun f => f.name != "_" && eqOk P d f.type
    | _ => true
section
variable {P : Program} {Gl : Glob} {B : Base} {tys : List TI} {env : List PV} {o : Oper} {A : Nat → Prop} {w : World} {β : List Nat}
theorem fldsOf_cons {f : Field} {fs : List Field} {l : List (Nat × Nat × Bool × TypeId)} (h : fldsOf P (f :: fs) = some l) : ∃ x l', fldOf P f = some x ∧ fldsOf P fs = some l' ∧ l = x :: l' := by
  unfold fldsOf at h
  split at h
  · rename_i x xs h1 h2; cases h; exact ⟨x, xs, h1, h2, rfl⟩
  · cases h
theorem tkOf_bool {d : TypeDesc} (h : TK.bool = tkOf P d) : d = .bool := by
  unfold tkOf at h
  split at h <;> first | rfl | (cases h; done) | (split at h <;> cases h)
theorem eqFs_sound {d N : Nat} {xs ys : List PV} {vs us : List Value} (hx : xs.length = vs.length) (hy : ys.length = us.length) (hxd : ∀ (j : Nat) c v, xs[j]? = some c → vs[j]? = some v → Den A w β c v) (hyd : ∀ (j : Nat) c v, ys[j]? = some c → us[j]? = some v → Den A w β c v)
    (hr : ∀ t x y r vx vy, eqOk P d t = true → eqP tys d t x y = some r → Den A w β x vx → Den A w β y vy → (Op.equalIn (N + d) t vx vy).run P w = .ok r w) :
    ∀ (fs : List Field) (l : List (Nat × Nat × Bool × TypeId)) (r : Bool), (fs.all fun f => f.name != "_" && eqOk P d f.type) = true → fldsOf P fs = some l → eqFs (eqP tys d) xs ys l = some r →
      (Op.eqFields (N + d) vs.toArray us.toArray fs).run P w = .ok r w
  | [], l, r, _, hl, h => by
    cases hl
    cases h
    simp [Op.eqFields]
  | f :: fs, l, r, hok, hl, h => by
    obtain ⟨⟨o, s, ag, ft⟩, l', h1, h2, rfl⟩ := fldsOf_cons hl
    simp only [List.all_cons, Bool.and_eq_true, bne_iff_ne] at hok
    obtain ⟨⟨hn, hoke⟩, hokr⟩ := hok
    unfold fldOf at h1
    split at h1
    · rename_i s' d' hs hd
      cases h1
      unfold eqFs at h
      split at h
      · rename_i a b ha hb
        split at h
        · rename_i p q hp hq
          cases h
          obtain ⟨va, ra, da⟩ := run_part (P := P) xs vs (Nat.le_of_eq hx) hxd hd hs ha
          obtain ⟨vb, rb, db⟩ := run_part (P := P) ys us (Nat.le_of_eq hy) hyd hd hs hb
          have he := hr _ _ _ _ _ _ hoke hp da db
          have hrest := eqFs_sound hx hy hxd hyd hr fs l' q hokr h2 hq
          simp only [Op.eqFields, hn, ne_eq, not_false_eq_true, if_true, Sem.run_bind, ra, rb, he, Result.andThen_ok]
          cases p
          · simp
          · simpa using hrest
        · cases h
      · cases h
    · cases h1
theorem eqP_sound (hT : Tys P tys) : ∀ (d : Nat) (N : Nat) (t : TypeId) (x y : PV) (r : Bool) (vx vy : Value), eqOk P d t = true → eqP tys d t x y = some r → Den A w β x vx → Den A w β y vy → (Op.equalIn (N + d) t vx vy).run P w = .ok r w
  | 0, N, t, x, y, r, vx, vy, hok, _, _, _ => by cases hok
  | d + 1, N, t, x, y, r, vx, vy, hok, h, hx, hy => by
    unfold eqP at h
    split at h
    · rename_i z1 z2 z3 ht
      obtain ⟨i, td, hi1, hu, htk, _⟩ := tyOf_spec (hT _ _ ht)
      obtain rfl := tkOf_bool htk
      split at h
      · cases h
        rw [hx.bool_inv, hy.bool_inv]
        exact run_equalIn_bool' w (N + d) t _ _ hu
      · cases h
    · rename_i k z1 z2 z3 ht
      obtain ⟨i, td, hi1, hu, htk, _⟩ := tyOf_spec (hT _ _ ht)
      obtain rfl := tkOf_int htk
      split at h
      · split at h
        · rename_i hk; subst hk; cases h
          rw [hx.int_inv, hy.int_inv]
          exact run_equalIn_int w (N + d) t _ _ _ _ hu
        · cases h
      · cases h
    · rename_i z1 z2 z3 ht
      obtain ⟨i, td, hi1, hu, htk, _⟩ := tyOf_spec (hT _ _ ht)
      obtain rfl := tkOf_str htk
      split at h
      · rename_i a b
        cases h
        rw [hx.str_inv, hy.str_inv]
        have := run_equalIn_string w (N + d) t (⟨a.toArray⟩ : ByteArray) (⟨b.toArray⟩ : ByteArray) hu
        rw [ByteArray.toList_eq, ByteArray.toList_eq] at this
        exact this
      · cases h
    · rename_i l z1 z2 z3 ht
      obtain ⟨i, td, hi1, hu, htk, _⟩ := tyOf_spec (hT _ _ ht)
      obtain ⟨fs, rfl, hfs⟩ := tkOf_strct htk
      unfold eqOk at hok
      rw [hu] at hok
      simp only [Bool.and_eq_true, Bool.not_eq_true'] at hok
      split at h
      · obtain ⟨vs, rfl, hl1, hd1⟩ := hx.agg_inv
        obtain ⟨us, rfl, hl2, hd2⟩ := hy.agg_inv
        have hf : P.fieldsOf t = fs := by simp [Program.fieldsOf, hu]
        rw [show N + (d + 1) = (N + d) + 1 from rfl, run_equalIn_agg w (N + d) t _ _ (by rw [hf]; exact hu) hok.1, hf]
        exact eqFs_sound hl1 hl2 hd1 hd2 (fun t x y r vx vy h1 h2 h3 h4 => eqP_sound hT d N t x y r vx vy h1 h2 h3 h4) fs.toList l r hok.2 hfs h
      · cases h
    · cases h
/-- '==' and '!=' of structs. -/
theorem v_eqS (hT : Tys P tys) {t t' : TypeId} {x y : Operand} {xs ys : List PV} {r : Bool} (ho : o.op = .binOp .eql t x y t') (hx : pe env x = .agg xs) (hy : pe env y = .agg ys) (hok : (eqOk P 10 t && !P.eqGuardType P.depth t) = true) (h : eqP tys 10 t (.agg xs) (.agg ys) = some r) : OpV P Gl B o env (.bool r) := by
  intro st A w β tmps hi he
  simp only [Bool.and_eq_true, Bool.not_eq_true'] at hok
  have hdx := he.eval [] x
  have hdy := he.eval [] y
  rw [hx] at hdx
  rw [hy] at hdy
  have hs := eqP_sound (P := P) hT 10 9990 t _ _ r _ _ hok.1 h hdx hdy
  obtain ⟨vs, hv1, _⟩ := hdx.agg_inv
  obtain ⟨us, hv2, _⟩ := hdy.agg_inv
  rw [hv1, hv2] at hs
  refine ⟨.bool r, ?_, .bool ..⟩
  simp only [execOp, ho, Sem.run_bind, hv1, hv2, run_eqGuard_agg w .eql t x y vs.toArray us.toArray hok.2, Result.andThen_ok, run_eql_struct]
  rw [show (10000 : Nat) = 9990 + 10 from rfl, hs]
  rfl
theorem v_neS (hT : Tys P tys) {t t' : TypeId} {x y : Operand} {xs ys : List PV} {r : Bool} (ho : o.op = .binOp .neq t x y t') (hx : pe env x = .agg xs) (hy : pe env y = .agg ys) (hok : (eqOk P 10 t && !P.eqGuardType P.depth t) = true) (h : eqP tys 10 t (.agg xs) (.agg ys) = some r) : OpV P Gl B o env (.bool !r) := by
  intro st A w β tmps hi he
  simp only [Bool.and_eq_true, Bool.not_eq_true'] at hok
  have hdx := he.eval [] x
  have hdy := he.eval [] y
  rw [hx] at hdx
  rw [hy] at hdy
  have hs := eqP_sound (P := P) hT 10 9990 t _ _ r _ _ hok.1 h hdx hdy
  obtain ⟨vs, hv1, _⟩ := hdx.agg_inv
  obtain ⟨us, hv2, _⟩ := hdy.agg_inv
  rw [hv1, hv2] at hs
  refine ⟨.bool !r, ?_, .bool ..⟩
  simp only [execOp, ho, Sem.run_bind, hv1, hv2, run_eqGuard_agg w .neq t x y vs.toArray us.toArray hok.2, Result.andThen_ok, run_neq_struct]
  rw [show (10000 : Nat) = 9990 + 10 from rfl, hs]
  rfl
end
end Go.Pw
namespace Go.Pw
open Go
section
variable {P : Program} {Gl : Glob} {B : Base} {tys : List TI} {env : List PV} {o : Oper}
theorem v_eqB (hT : Tys P tys) {t t' : TypeId} {x y : Operand} {a b : Bool} {z1 z2 : Nat} {z3 : Option (List PV)} (ht : tys[t]? = some ⟨.bool, z1, z2, z3⟩) (hok : eqOk P 10 t = true) (ho : o.op = .binOp .eql t x y t') (hx : pe env x = .bool a) (hy : pe env y = .bool b) : OpV P Gl B o env (.bool (a == b)) := by
  intro st A w β tmps hi he
  have hdx := he.eval [] x
  have hdy := he.eval [] y
  rw [hx] at hdx
  rw [hy] at hdy
  have hs := eqP_sound (P := P) hT 10 9990 t _ _ (a == b) _ _ hok (by simp [eqP, ht]) hdx hdy
  rw [hdx.bool_inv, hdy.bool_inv] at hs
  refine ⟨.bool (a == b), ?_, .bool ..⟩
  simp only [execOp, ho, Sem.run_bind, hdx.bool_inv, hdy.bool_inv, eqGuard]
  simp only [binOp, Sem.run_bind, Op.equal]
  have hs' : (Op.equalIn 10000 t (.bool a) (.bool b)).run P w = .ok (a == b) w := hs
  simp [hs', Op.maxDepth]
end
end Go.Pw
namespace Go.Pw
open Go Go.RowKit

/-- A plain value, as the model has it. -/
def litV : PV → Value
  | .bool b => .bool b
  | .int k n => .int k n
  | .str s => .string ⟨s.toArray⟩
  | .nilsl => .slice none 0 0
  | _ => undef
def isLit : PV → Bool
  | .bool _ | .int _ _ | .str _ | .nilsl => true
  | _ => false

section
variable {P : Program} {Gl : Glob} {B : Base} {tys : List TI} {env : List PV} {st : List PObj} {A : Nat → Prop} {w : World} {β : List Nat} {tmps : List Value}

theorem Den.lit {p : PV} {v : Value} (h : Den A w β p v) (hp : isLit p = true) : v = litV p := by
  cases h <;> first | rfl | cases hp
theorem den_lit (p : PV) (hp : isLit p = true) : Den A w β p (litV p) := by
  cases p <;> first | (cases hp; done) | exact .bool .. | exact .int .. | exact .str .. | exact .nilsl ..
theorem den_tup {ps : List PV} (hp : ps.all isLit = true) : Den A w β (.tup ps) (.tuple (ps.map litV).toArray) := by
  refine .tup _ _ _ (by simp) fun j c v hc hv => ?_
  rw [List.getElem?_map, hc] at hv
  cases hv
  exact den_lit c (List.all_eq_true.1 hp c (List.mem_of_getElem? hc))

theorem litArgs : ∀ {args : List PV} {vals : List Value}, ArgRel A w β args vals → args.all isLit = true → vals = args.map litV := by
  intro args vals h hl
  apply List.ext_getElem?
  intro i
  rw [List.getElem?_map]
  by_cases hi : i < args.length
  · have hv : i < vals.length := by rw [← h.1]; exact hi
    rw [List.getElem?_eq_getElem hi, List.getElem?_eq_getElem hv]
    have := (h.2 i _ _ (List.getElem?_eq_getElem hi) (List.getElem?_eq_getElem hv)).lit (List.all_eq_true.1 hl _ (List.getElem_mem hi))
    rw [this]; rfl
  · have hl2 : args.length = vals.length := h.1
    rw [List.getElem?_eq_none (by omega), List.getElem?_eq_none (by omega)]; rfl

/-- The package-level variables read as they are known to. -/
def GlobW (Gl : Glob) (w : World) : Prop := ∀ b, b < Gl.n → w.heap[b]? = Gl.G b

theorem Inv.globW (hi : Inv Gl B A w β st) : GlobW Gl w := fun b hb => by
  obtain ⟨g1, g2, g3⟩ := hi.glob b hb
  exact (hi.keep b g3 g2).trans g1

/-- New blocks, draws: nothing else. -/
theorem Inv.below {w' : World} (hi : Inv Gl B A w β st) (hb : Below w.heap.size w w') : Inv Gl B A w' β st ∧ Ext A w A w' := by
  have hE : Ext A w A w' := ⟨fun _ h => h, fun b h => hb.block b (hi.lt b h)⟩
  refine ⟨⟨hi.len, hi.inj, fun i b o h1 h2 => ?_, hi.notA, hi.own, fun b h => Nat.lt_of_lt_of_le (hi.lt b h) hb.size, hi.new, hi.old, Nat.le_trans hi.size hb.size, hb.os.trans hi.os, hb.tape.trans hi.tape, hb.output.trans hi.output, fun b h hk => ?_, hi.glob, hi.pre, hi.apart⟩, hE⟩
  · have := hi.obj i b o h1 h2
    cases hl : o.live with
    | true => exact this.mono hE (.refl _) (hb.block b (this.lt hl))
    | false => exact this.still hl
  · rw [hb.block b (Nat.lt_of_lt_of_le h hi.size)]; exact hi.keep b h hk

/-- A library function at plain values, that leaves the world's older blocks alone and yields a plain value. -/
theorem PFun.lib {f : FuncId} {args : List PV} {R : PV → Prop} (ha : args.all isLit = true)
    (h : ∀ w, GlobW Gl w → Calls P f (args.map litV).toArray w fun e w' => ∃ p, e = .returned (litV p) ∧ isLit p = true ∧ R p ∧ Below w.heap.size w w') : PFun P Gl f args R := fun A w β vals hi har => by
  rw [litArgs har ha]
  refine (h w hi.globW).mono ?_
  rintro e w' ⟨p, rfl, hp, hR, hb⟩
  obtain ⟨h1, h2⟩ := hi.below hb
  exact ⟨p, _, [], A, β, rfl, ⟨hR, rfl⟩, den_lit p hp, h1⟩
theorem PFun.libT {f : FuncId} {args : List PV} {R : PV → Prop} (ha : args.all isLit = true)
    (h : ∀ w, GlobW Gl w → Calls P f (args.map litV).toArray w fun e w' => ∃ ps : List PV, e = .returned (.tuple (ps.map litV).toArray) ∧ ps.all isLit = true ∧ R (.tup ps) ∧ Below w.heap.size w w') : PFun P Gl f args R := fun A w β vals hi har => by
  rw [litArgs har ha]
  refine (h w hi.globW).mono ?_
  rintro e w' ⟨p, rfl, hp, hR, hb⟩
  obtain ⟨h1, h2⟩ := hi.below hb
  exact ⟨.tup p, _, [], A, β, rfl, ⟨hR, rfl⟩, den_tup hp, h1⟩
/-- … and one that yields a new row of plain values. -/
theorem PFun.libRow {f : FuncId} {args : List PV} {R : PV → Prop} {T : TypeId} (ha : args.all isLit = true)
    (h : ∀ w, GlobW Gl w → Calls P f (args.map litV).toArray w fun e w' => ∃ ps : List PV, e = .returned (.slice (some ⟨w.heap.size, 0, none⟩) ps.length ps.length) ∧ ps.all isLit = true ∧ ps.length ≤ maxLen ∧ R (.sl ps) ∧ w' = w.alloc (.cells (ps.map litV).toArray T)) : PFun P Gl f args R := fun A w β vals hi har => by
  rw [litArgs har ha]
  refine (h w hi.globW).mono ?_
  rintro e w' ⟨ps, rfl, hp, hm, hR, rfl⟩
  obtain ⟨A', hi', hE, hA⟩ := hi.fix (.cells (ps.map litV).toArray T)
  refine ⟨.sl ps, _, [], A', β, rfl, ⟨hR, rfl⟩, ?_, hi'⟩
  have hc : ∀ x ∈ ps, x.cells = [x] := fun x hx => by
    have := List.all_eq_true.1 hp x hx
    cases x <;> first | rfl | cases this
  refine .sl _ 1 _ _ _ (fun i _ => (ps.map litV).getD i undef) (fun _ => ⟨hA, rfl⟩) (Nat.le_refl _) hm (fun x hx => by rw [hc x hx]; rfl) (fun i x j c hx hj => ?_) (fun i x j c hx hj => ?_)
  · have hxm := List.mem_of_getElem? hx
    rw [hc x hxm] at hj
    have hj0 : j = 0 := by have := (List.getElem?_eq_some_iff.1 hj).1; simp at this; exact this
    subst hj0
    have hcell : (w.alloc (.cells (ps.map litV).toArray T)).heap[w.heap.size]? = some (.cells (ps.map litV).toArray T (0, 0)) := by show (w.heap.push _)[w.heap.size]? = _; simp
    rw [obj_cell hcell]
    simp only [Nat.zero_add, Nat.mul_one, Nat.add_zero, List.getElem?_map, hx, Option.map_some, List.getD, Option.getD_some]
  · have hxm := List.mem_of_getElem? hx
    rw [hc x hxm] at hj
    have hj0 : j = 0 := by have := (List.getElem?_eq_some_iff.1 hj).1; simp at this; exact this
    subst hj0
    simp at hj
    subst hj
    simp only [List.getD, List.getElem?_map, hx, Option.map_some, Option.getD_some]
    exact den_lit x (List.all_eq_true.1 hp x hxm)
end
end Go.Pw
namespace Go.Pw
open Go
/-- An element of a slice, out of its cells. -/
def mkE (agg : Bool) (cells : List PV) : PV := match agg with | true => .agg cells | false => cells.headD .any
/-- Whether the fields of a struct stand one behind the other, without gaps. -/
def laidL : List (Nat × Nat × Bool × TypeId) → Nat → Option Nat
  | [], off => some off
  | (o, s, _, _) :: l, off => if o = off then laidL l (off + s) else none
/-- Types that this reading covers; fuel. -/
def rdOk (tys : List TI) : Nat → TypeId → Bool
  | 0, _ => false
  | n + 1, t => match tys[t]? with
    | some ⟨.bool, 1, _, _⟩ => true
    | some ⟨.int _, 1, _, _⟩ => true
    | some ⟨.str, 1, _, _⟩ => true
    | some ⟨.strct l, s, _, _⟩ => laidL l 0 == some s && l.all fun x => rdOk tys n x.2.2.2
    | some ⟨.sl e s _, 1, _, _⟩ => decide (0 < s) && rdOk tys n e && (match tys[e]? with | some ti => ti.size == s && (ti.tk.agg || ti.size == 1) | none => false)
    | _ => false
/-- What is known of cells that have been read. -/
def WT (tys : List TI) : Nat → TypeId → List PV → Prop
  | 0, _, _ => False
  | n + 1, t, ps => match tys[t]? with
    | some ⟨.bool, _, _, _⟩ => ∃ b, ps = [.bool b]
    | some ⟨.int k, _, _, _⟩ => ∃ m, ps = [.int k m] ∧ (Lit.int k m).wf = true
    | some ⟨.str, _, _, _⟩ => ∃ s, ps = [.str s] ∧ s.length ≤ maxLen
    | some ⟨.strct l, s, _, _⟩ => ps.length = s ∧ ∀ x ∈ l, WT tys n x.2.2.2 ((ps.drop x.1).take x.2.1)
    | some ⟨.sl e s _, _, _, _⟩ => ∃ xs : List PV, ps = [.sl xs] ∧ xs.length ≤ maxLen ∧ ∀ x ∈ xs, x.cells.length = s ∧ WT tys n e x.cells ∧ x = mkE (((tys[e]?).map fun ti => ti.tk.agg).getD false) x.cells
    | _ => False
section
variable {P : Program} {tys : List TI} {H : Type} {enc : TypeId × Value → H} {w : World} {base : Nat} {spare : Nat → Bool} {held : Bool}
/-- The blocks that stand when the call begins. -/
def oldB (w : World) (b : Nat) : Prop := b < w.heap.size
def CellsDen (w : World) (ps : List PV) (cs : List Value) : Prop := ps.length = cs.length ∧ ∀ (j : Nat) c v, ps[j]? = some c → cs[j]? = some v → Den (oldB w) w [] c v
theorem CellsDen.one {c : PV} {v : Value} (h : Den (oldB w) w [] c v) : CellsDen w [c] [v] := ⟨rfl, fun j c' v' h1 h2 => by
  cases j with
  | zero => simp at h1 h2; subst h1; subst h2; exact h
  | succ j => simp at h1⟩
theorem CellsDen.append {ps qs : List PV} {cs ds : List Value} (h : CellsDen w ps cs) (g : CellsDen w qs ds) : CellsDen w (ps ++ qs) (cs ++ ds) := by
  refine ⟨by simp [h.1, g.1], fun j c v h1 h2 => ?_⟩
  by_cases hj : j < ps.length
  · rw [List.getElem?_append_left hj] at h1
    rw [List.getElem?_append_left (by rw [← h.1]; exact hj)] at h2
    exact h.2 j c v h1 h2
  · rw [List.getElem?_append_right (by omega)] at h1
    rw [List.getElem?_append_right (by rw [← h.1]; omega), ← h.1] at h2
    exact g.2 _ c v h1 h2
theorem drop_take_split {α : Type} (cs : List α) (a n : Nat) : cs.drop a = (cs.drop a).take n ++ cs.drop (a + n) := by
  rw [← List.drop_drop, List.take_append_drop]
/-- The fields, one behind the other. -/
theorem read_fields {n fuel : Nat} (cs : List Value) (hR : ∀ t c x, rdOk tys n t = true → DataW.trod enc P w base spare held fuel t c = some x → ∃ ps, CellsDen w ps c ∧ WT tys n t ps) :
    ∀ (fs : List Field) (l : List (Nat × Nat × Bool × TypeId)) (off fin : Nat), fldsOf P fs = some l → laidL l off = some fin → cs.length = fin → off ≤ fin → (l.all fun x => rdOk tys n x.2.2.2) = true →
      (∀ f ∈ fs, ∃ x, DataW.trod enc P w base spare held fuel f.type ((cs.drop f.offset).take (P.cellsOf f.type)) = some x) →
      ∃ ps, CellsDen w ps (cs.drop off) ∧ ∀ x ∈ l, off ≤ x.1 ∧ WT tys n x.2.2.2 ((ps.drop (x.1 - off)).take x.2.1)
  | [], l, off, fin, hl, hlay, hcs, hle, _, _ => by
    cases hl
    simp only [laidL, Option.some.injEq] at hlay
    subst hlay
    exact ⟨[], ⟨by simp [hcs], by simp⟩, by simp⟩
  | f :: fs, l, off, fin, hl, hlay, hcs, hle, hok, hall => by
    unfold fldsOf at hl
    split at hl
    · rename_i x xs hx hxs
      cases hl
      unfold fldOf at hx
      split at hx
      · rename_i s d hs hd
        cases hx
        simp only [laidL] at hlay
        split at hlay
        · rename_i hoff
          simp only [List.all_cons, Bool.and_eq_true] at hok
          obtain ⟨y, hy⟩ := hall f (List.mem_cons_self ..)
          have hcell : P.cellsOf f.type = s := by
            unfold szOf at hs
            simp [Program.cellsOf, hs]
          rw [hcell, hoff] at hy
          obtain ⟨p1, hd1, hw1⟩ := hR _ _ _ hok.1 hy
          have hmono : ∀ (l : List (Nat × Nat × Bool × TypeId)) (a b : Nat), laidL l a = some b → a ≤ b := by
            intro l
            induction l with
            | nil => intro a b h; simp [laidL] at h; omega
            | cons z l ih =>
              intro a b h
              obtain ⟨o, s, g, u⟩ := z
              simp only [laidL] at h
              split at h
              · have := ih _ _ h; omega
              · cases h
          have hle2 := hmono _ _ _ hlay
          obtain ⟨p2, hd2, hw2⟩ := read_fields cs hR fs xs (off + s) fin hxs hlay hcs hle2 hok.2 (fun g hg => hall g (List.mem_cons_of_mem _ hg))
          have hl1 : p1.length = s := by rw [hd1.1]; simp; omega
          refine ⟨p1 ++ p2, ?_, ?_⟩
          · rw [drop_take_split cs off s]
            exact hd1.append hd2
          · intro z hz
            rcases List.mem_cons.1 hz with rfl | hz
            · refine ⟨by omega, ?_⟩
              show WT tys n f.type (((p1 ++ p2).drop (f.offset - off)).take s)
              rw [hoff, Nat.sub_self, List.drop_zero, ← hl1, List.take_left]
              exact hw1
            · obtain ⟨g1, g2⟩ := hw2 z hz
              refine ⟨by omega, ?_⟩
              rw [List.drop_append, show (p1.drop (z.1 - off)) = [] from List.drop_of_length_le (by omega), List.nil_append, hl1, show z.1 - off - s = z.1 - (off + s) by omega]
              exact g2
        · cases hlay
      · cases hx
    · cases hl
theorem add_at (a : Addr) (n : Nat) (h : a.spot = none) : a.add n = ⟨a.block, a.off + n, none⟩ := by
  obtain ⟨b, o, s⟩ := a
  cases h
  exact addr_add b o n
theorem read_den (hT : Tys P tys) : ∀ (n : Nat) (t : TypeId) (fuel : Nat) (cs : List Value) (x : DataW H × List MemPlace), rdOk tys n t = true → DataW.trod enc P w base spare held fuel t cs = some x → ∃ ps, CellsDen w ps cs ∧ WT tys n t ps
  | 0, t, fuel, cs, x, hok, _ => by cases hok
  | n + 1, t, fuel, cs, x, hok, h => by
    unfold rdOk at hok
    unfold WT
    split at hok
    · rename_i z1 z2 ht
      obtain ⟨i, td, hi1, hu, htk, _⟩ := tyOf_spec (hT _ _ ht)
      have : td = .bool := by
        unfold tkOf at htk
        split at htk <;> first | rfl | (cases htk; done) | (split at htk <;> cases htk)
      subst this
      obtain ⟨b, rfl, _⟩ := DataW.trod_bool hu h
      simp only [ht]
      exact ⟨[.bool b], .one (.bool ..), b, rfl⟩
    · rename_i k z1 z2 ht
      obtain ⟨i, td, hi1, hu, htk, _⟩ := tyOf_spec (hT _ _ ht)
      obtain rfl := tkOf_int htk
      obtain ⟨m, rfl, _, hwf⟩ := DataW.trod_int hu h
      simp only [ht]
      exact ⟨[.int k m], .one (.int ..), m, rfl, hwf⟩
    · rename_i z1 z2 ht
      obtain ⟨i, td, hi1, hu, htk, _⟩ := tyOf_spec (hT _ _ ht)
      obtain rfl := tkOf_str htk
      obtain ⟨s, rfl, _, hl⟩ := DataW.trod_string hu h
      simp only [ht]
      refine ⟨[.str s.data.toList], .one ?_, s.data.toList, rfl, by rw [Array.length_toList]; exact hl⟩
      exact .str [] s.data.toList
    · rename_i l s z1 z2 ht
      obtain ⟨i, td, hi1, hu, htk, hsz, _⟩ := tyOf_spec (hT _ _ ht)
      obtain ⟨fs, rfl, hfs⟩ := tkOf_strct htk
      simp only [Bool.and_eq_true, beq_iff_eq] at hok
      obtain ⟨xs, fuel', rfl, _, hlen, hxl, hfld⟩ := DataW.trod_struct hu h
      have hcl : P.cellsOf t = s := by
        have : s = i.size := hsz
        simp [Program.cellsOf, hi1, this]
      rw [hcl] at hlen
      obtain ⟨ps, hd, hw⟩ := read_fields cs (fun t c x h1 h2 => read_den hT n t fuel' c x h1 h2) fs.toList l 0 s hfs hok.1 hlen (Nat.zero_le _) hok.2 (fun f hf => by
        obtain ⟨j, hj⟩ := List.mem_iff_getElem?.1 hf
        have hj' : fs[j]? = some f := by simpa using hj
        have := hfld j f hj'
        have hjl : j < xs.length := by rw [hxl]; exact (Array.getElem?_eq_some_iff.1 hj').1
        rw [List.getElem?_eq_getElem hjl] at this
        exact ⟨_, this⟩)
      simp only [ht]
      refine ⟨ps, by simpa using hd, by rw [hd.1]; simpa using hlen, fun y hy => ?_⟩
      have := (hw y hy).2
      rwa [Nat.sub_zero] at this
    · rename_i e s b z1 z2 ht
      obtain ⟨i, td, hi1, hu, htk, _⟩ := tyOf_spec (hT _ _ ht)
      obtain ⟨rfl, ie, hie, hise, _⟩ := tkOf_sl htk
      simp only [Bool.and_eq_true, decide_eq_true_eq] at hok
      obtain ⟨⟨hs0, hoke⟩, hte⟩ := hok
      cases hte0 : tys[e]? with
      | none => rw [hte0] at hte; cases hte
      | some te =>
      rw [hte0] at hte
      simp only [Bool.and_eq_true, beq_iff_eq, Bool.or_eq_true] at hte
      have hce : P.cellsOf e = s := by simp [Program.cellsOf, hie, hise]
      simp only [ht, hte0]
      rcases DataW.trod_slice hu h with ⟨rfl, _⟩ | ⟨a, len, cap, elems, rest, fuel', _, rfl, _, hb, hl, hm, hel, hall, _⟩
      · exact ⟨[.sl []], .one (.slnil _), [], rfl, Nat.zero_le _, by simp⟩
      · rw [hce] at hall
        have H1 : ∀ i, i < len → ∃ q : List PV × List Value, w.cells? base (a.add (i * s)) s = some q.2 ∧ CellsDen w q.1 q.2 ∧ WT tys n e q.1 := by
          intro i hi
          have := hall i hi
          rw [List.getElem?_eq_getElem (by omega)] at this
          obtain ⟨cs', h1, h2⟩ := Option.bind_eq_some_iff.1 this
          obtain ⟨ps, h3, h4⟩ := read_den hT n e fuel' cs' _ hoke h2
          exact ⟨(ps, cs'), h1, h3, h4⟩
        let g : Nat → List PV × List Value := fun i => if h : i < len then Classical.choose (H1 i h) else ([], [])
        have hg : ∀ i, i < len → w.cells? base (a.add (i * s)) s = some (g i).2 ∧ CellsDen w (g i).1 (g i).2 ∧ WT tys n e (g i).1 := by
          intro i hi
          have := Classical.choose_spec (H1 i hi)
          simpa [g, hi] using this
        have hlen : ∀ i, i < len → (g i).1.length = s := fun i hi => by
          rw [(hg i hi).2.1.1]; exact (World.cells?_some (hg i hi).1).2.1
        have hmk : ∀ i, i < len → (mkE te.tk.agg (g i).1).cells = (g i).1 := by
          intro i hi
          unfold mkE
          split
          · rfl
          · rename_i hagg
            have h1 : s = 1 := by
              rcases hte.2 with h | h
              · rw [h] at hagg; cases hagg
              · omega
            have hl1 := hlen i hi
            rw [h1] at hl1
            obtain ⟨c, hc⟩ : ∃ c, (g i).1 = [c] := by
              match hgi : (g i).1, hl1 with
              | [c], _ => exact ⟨c, rfl⟩
            rw [hc]
            have hwt := (hg i hi).2.2
            rw [hc] at hwt
            show c.cells = [c]
            cases n with
            | zero => cases hwt
            | succ n =>
              unfold WT at hwt
              rw [hte0] at hwt
              obtain ⟨tk, sz, by_, zz⟩ := te
              cases tk <;> simp only at hwt hagg
              case bool => obtain ⟨b, hb⟩ := hwt; cases hb; rfl
              case int k => obtain ⟨m, hm, _⟩ := hwt; cases hm; rfl
              case str => obtain ⟨m, hm, _⟩ := hwt; cases hm; rfl
              case sl e2 s2 b2 => obtain ⟨m, hm, _⟩ := hwt; cases hm; rfl
              case strct l2 => cases hagg
        have hspot : len ≠ 0 → a.spot = none ∧ a.block < w.heap.size := by
          intro h0
          have h1 := (hg 0 (by omega)).1
          rw [Nat.zero_mul] at h1
          obtain ⟨_, h2, h3⟩ := World.cells?_some h1
          have h4 := h3 0 hs0
          have h5 : (a.add 0).add 0 = a := rfl
          rw [h5, List.getElem?_eq_getElem (by omega)] at h4
          unfold World.cell? at h4
          split at h4
          · rename_i c0 T0 fr0 hh
            refine ⟨?_, (Array.getElem?_eq_some_iff.1 hh).1⟩
            split at h4
            · cases h4
            · rename_i hsp; simpa using hsp
          · cases h4
        refine ⟨[.sl ((List.range len).map fun i => mkE te.tk.agg (g i).1)], .one ?_, _, rfl, by rw [List.length_map, List.length_range]; exact Nat.le_trans hl hm, ?_⟩
        · have hd := Den.sl (A := oldB w) (w := w) [] s ((List.range len).map fun i => mkE te.tk.agg (g i).1) a cap (fun i j => (g i).2.getD j undef) ?_ (by simpa using hl) hm ?_ ?_ ?_
          · simpa using hd
          · intro hne
            have : len ≠ 0 := by rintro rfl; exact hne rfl
            exact ⟨(hspot this).2, (hspot this).1⟩
          · intro y hy
            obtain ⟨i, hi, rfl⟩ := List.mem_map.1 hy
            rw [hmk i (List.mem_range.1 hi)]
            exact hlen i (List.mem_range.1 hi)
          · intro i y j c hy hc
            rw [List.getElem?_map] at hy
            have hi : i < len := by
              rcases Nat.lt_or_ge i len with h | h
              · exact h
              · rw [List.getElem?_eq_none (by simpa using h)] at hy; cases hy
            rw [List.getElem?_range hi] at hy
            cases hy
            rw [hmk i hi] at hc
            have hj : j < s := by rw [← hlen i hi]; exact (List.getElem?_eq_some_iff.1 hc).1
            obtain ⟨_, h2, h3⟩ := World.cells?_some (hg i hi).1
            have h4 := h3 j hj
            have hsp := (hspot (by omega)).1
            rw [add_at a _ hsp, add_at _ _ rfl] at h4
            simp only at h4
            rw [Nat.add_assoc] at h4
            rw [h4, List.getD, List.getElem?_eq_getElem (by omega)]
            rfl
          · intro i y j c hy hc
            rw [List.getElem?_map] at hy
            have hi : i < len := by
              rcases Nat.lt_or_ge i len with h | h
              · exact h
              · rw [List.getElem?_eq_none (by simpa using h)] at hy; cases hy
            rw [List.getElem?_range hi] at hy
            cases hy
            rw [hmk i hi] at hc
            have hd := (hg i hi).2.1
            have hj : j < (g i).2.length := by rw [← hd.1]; exact (List.getElem?_eq_some_iff.1 hc).1
            exact hd.2 j c _ hc (by rw [List.getD, List.getElem?_eq_getElem hj]; rfl)
        · intro y hy
          obtain ⟨i, hi, rfl⟩ := List.mem_map.1 hy
          have hi' := List.mem_range.1 hi
          refine ⟨by rw [hmk i hi']; exact hlen i hi', by rw [hmk i hi']; exact (hg i hi').2.2, ?_⟩
          show mkE te.tk.agg (g i).1 = mkE te.tk.agg (mkE te.tk.agg (g i).1).cells
          rw [hmk i hi']
    · cases hok
end
end Go.Pw
namespace Go.Pw
open Go Go.RowKit Go.WideShapes
section
variable {P : Program} {tys : List TI} {H : Type} {enc : TypeId × Value → H} {W : World} {base : Nat} {sp : Nat → Bool}
def aggT (tys : List TI) (t : TypeId) : Bool := ((tys[t]?).map fun ti => ti.tk.agg).getD false
/-- An argument. -/
theorem read_arg (hT : Tys P tys) {n : Nat} {t : TypeId} {v : Value} {d : DataW H} {p : List MemPlace} {r : Reach} {b0 : Nat} {held : Bool} (hok : rdOk tys n t = true) (hval : Value.okWide P W r b0 t v) (h : DataW.Trod enc P W base sp held t v d p) :
    ∃ cells, WT tys n t cells ∧ Den (oldB W) W [] (mkE (aggT tys t) cells) v := by
  obtain ⟨fuel, h⟩ := h
  obtain ⟨ps, hd, hw⟩ := read_den hT n t fuel _ _ hok h
  refine ⟨ps, hw, ?_⟩
  have one : ∀ u : Value, v = u → u.cells = #[u] → aggT tys t = false → Den (oldB W) W [] (mkE (aggT tys t) ps) v := by
    intro u hu hc hag
    subst hu
    rw [hc] at hd
    obtain ⟨c, rfl⟩ : ∃ c, ps = [c] := by
      match ps, hd.1 with
      | [c], _ => exact ⟨c, rfl⟩
    rw [hag]
    exact hd.2 0 c v rfl rfl
  cases n with
  | zero => cases hok
  | succ n =>
    unfold rdOk at hok
    split at hok
    · rename_i z1 z2 ht
      obtain ⟨i, td, hi1, hu, htk, _⟩ := tyOf_spec (hT _ _ ht)
      have : td = .bool := by
        unfold tkOf at htk
        split at htk <;> first | rfl | (cases htk; done) | (split at htk <;> cases htk)
      subst this
      obtain ⟨b, hb⟩ := okWide_bool hu hval
      exact one _ hb rfl (by simp [aggT, ht, TK.agg])
    · rename_i k z1 z2 ht
      obtain ⟨i, td, hi1, hu, htk, _⟩ := tyOf_spec (hT _ _ ht)
      obtain rfl := tkOf_int htk
      obtain ⟨b, hb⟩ := okWide_int hu hval
      exact one _ hb rfl (by simp [aggT, ht, TK.agg])
    · rename_i z1 z2 ht
      obtain ⟨i, td, hi1, hu, htk, _⟩ := tyOf_spec (hT _ _ ht)
      obtain rfl := tkOf_str htk
      obtain ⟨b, hb⟩ := okWide_string hu hval
      exact one _ hb rfl (by simp [aggT, ht, TK.agg])
    · rename_i l s z1 z2 ht
      obtain ⟨i, td, hi1, hu, htk, _⟩ := tyOf_spec (hT _ _ ht)
      obtain ⟨fs, rfl, _⟩ := tkOf_strct htk
      obtain ⟨cs, rfl, _⟩ := okWide_struct hu hval
      have hag : aggT tys t = true := by simp [aggT, ht, TK.agg]
      rw [hag]
      exact .agg [] ps cs.toList hd.1 fun j c u hc hu => hd.2 j c u hc hu
    · rename_i e s b z1 z2 ht
      obtain ⟨i, td, hi1, hu, htk, _⟩ := tyOf_spec (hT _ _ ht)
      obtain ⟨rfl, _⟩ := tkOf_sl htk
      obtain ⟨a, l, c, hb⟩ := okWide_slice hu hval
      exact one _ hb rfl (by simp [aggT, ht, TK.agg])
    · cases hok
/-- A world as it stands when the call begins: its first blocks are known. -/
theorem inv_start (n : Nat) (hn : n ≤ W.heap.size) : Inv ⟨n, fun b => W.heap[b]?⟩ (base0 (oldB W) W [] []) (oldB W) W [] [] := by
  have nolive : ∀ i, ¬ liveAt [] i := fun i ⟨o, h, _⟩ => by simp at h
  refine ⟨rfl, fun i j b h1 => by simp at h1, fun i b o h1 => by simp at h1, fun i b h1 => by simp at h1, fun i b h1 => by simp at h1, fun b h => h, fun b h => .inl h, fun b h => h, Nat.le_refl _, rfl, rfl, rfl, fun _ _ _ => rfl, fun b hb => ⟨rfl, fun ⟨i, _, hl⟩ => nolive i hl, Nat.lt_of_lt_of_le hb hn⟩, fun i b _ h => by simp [base0] at h, fun b hb => ⟨fun ⟨i, _, hl⟩ => nolive i hl, hb⟩⟩
/-- A call of a function that touches no object, out of its contract. -/
theorem calls_of {f : FuncId} {ps : List PV} {vals : List Value} {R : PV → Prop} (n : Nat) (hn : n ≤ W.heap.size) (hc : PFun P ⟨n, fun b => W.heap[b]?⟩ f ps R) (hl : ps.length = vals.length) (hd : ∀ (i : Nat) p v, ps[i]? = some p → vals[i]? = some v → Den (oldB W) W [] p v) :
    Calls P f vals.toArray W fun e W' => ∃ r v A', e = .returned v ∧ R r ∧ Den A' W' [] r v ∧ Below W.heap.size W W' := by
  refine (hc (oldB W) W [] vals (inv_start n hn) ⟨hl, hd⟩).mono ?_
  rintro e W' ⟨r, v, st', A', β', rfl, ⟨hR, rfl⟩, hden, hi⟩
  have hb0 : β' = [] := by have := hi.len; cases β' with | nil => rfl | cons x l => simp at this
  subst hb0
  refine ⟨r, v, A', rfl, hR, hden, ⟨hi.os, hi.tape, hi.output, hi.size, fun k hk => hi.keep k hk fun ⟨i, h, _⟩ => by simp at h⟩⟩
/-- Several arguments read behind the call as they did. -/
theorem trodAll_below (hl : laidOutB P = true) {W' : World} (hb : Below W.heap.size W W') : ∀ {ts : List TypeId} {vs : List Value} {ds : List (DataW H)} {p : List MemPlace}, (ts.all fun t => P.readableRec t && decide (t < P.types.size)) = true →
    DataW.TrodAll enc P W 0 (fun _ => true) true ts vs ds p → (∀ x ∈ p, x.block < W.heap.size) → DataW.TrodAll enc P W' 0 (fun b => decide (b < W.heap.size)) true ts vs ds p
  | [], [], [], _, _, h, _ => h
  | t :: ts, v :: vs, d :: ds, _, ht, ⟨p, q, h1, h2, e⟩, hlt => by
    simp only [List.all_cons, Bool.and_eq_true, decide_eq_true_eq] at ht
    subst e
    exact ⟨p, q, Below.trod hl ht.1.1 ht.1.2 h1 hb (fun x hx => hlt x (List.mem_append_left _ hx)), trodAll_below hl hb (by simpa using ht.2) h2 (fun x hx => hlt x (List.mem_append_right _ hx)), rfl⟩
end
/-- The wrap of a row that lists variables, with the world's shape handed on. -/
theorem handed_shaped {H : Type} {enc : TypeId × Value → H} {a : Assume} {C : Checked} {os : Os} {f : FuncId} {fn : Func} {s : ChangeSpec} {conds : List PathCond} {apart fresh handsOn again : Bool} {X : World → Array Value → Prop}
    (_hX : ∀ (w w' : World) (args : Array Value), w.heap = w'.heap → X w args → X w' args)
    (own : ownKnob C.prog.godebug = none) (started : os.Started) (noInit : C.prog.inits.idxOf? f = none) (hfn : C.prog.funcs[f]? = some fn)
    (witness : ∃ (w : World) (tape : Tape) (i : Input), w.os = os ∧ (w.forCall tape i).Shaped C.prog ∧ i.vars = [] ∧ Input.okWide C.prog (w.forCall tape i) .any w.heap.size f i ∧
      ((s.pre enc C.prog fn conds apart (w.forCall tape i).memory i.args ∧ X (w.forCall tape i).memory i.args) ∧ sizedMet enc C.prog fn (OpenSpec.ofChange s) apart (w.forCall tape i).memory i.args) ∧ a.holds C.prog (lone (Frame.enter C.prog f i.args .normal) [] (w.forCall tape i)))
    (contract : ∀ (W : World) (base : Nat) (args : Array Value) (ds gs : List (DataW H)) (before : List MemPlace),
      (∀ (j : Nat) t v, fn.params[j]? = some t → args[j]? = some v → Value.okWide C.prog W .any base t v) →
      DataW.Whole enc C.prog fn.params.toList s.vars apart W args.toList ds gs before → W.ShapedOpen C.prog →
      Calls C.prog f args W fun e W' => ∃ v, e = .returned v ∧ s.post enc C.prog fn apart fresh handsOn again W args v W') :
    ReturnsInHanded a C os f .any (fun w args => (s.pre enc C.prog fn conds apart w args ∧ X w args) ∧ sizedMet enc C.prog fn (OpenSpec.ofChange s) apart w args) (s.post enc C.prog fn apart fresh handsOn again) := by
  refine returnsInHanded_of_calls own started noInit witness ?_
  intro w tape i _ hsh _ hok hpre hholds
  obtain ⟨_, _, _, fn', hfn', _, _, _, _, hval⟩ := hok
  obtain rfl : fn' = fn := Option.some.inj (hfn'.symm.trans hfn)
  obtain ⟨⟨⟨ds, gs, before, hw, hc⟩, hx⟩, hz⟩ := hpre
  refine (contract (w.forCall tape i) w.heap.size i.args ds gs before hval (DataW.Whole.of_heap (w' := w.forCall tape i) (by rfl) hw) hsh).mono fun e W' ⟨v, he, hp⟩ => ?_
  subst he
  exact ChangeSpec.post_blind hp
end Go.Pw
namespace Go.Pw
open Go
section
variable {P : Program} {Gl : Glob} {B : Base} {tys : List TI} {env : List PV} {st : List PObj} {ops : Array Oper} {rest : List Oper} {o : Oper} {Q : Post}
theorem arr_room {A : Nat → Prop} {w : World} {β : List Nat} (hi : Inv Gl B A w β st) {i k cap : Nat} {xs : List PV} (hst : st[i]? = some (.arr k xs cap)) : xs.length ≤ cap := by
  have hil : i < β.length := by rw [hi.len]; exact (List.getElem?_eq_some_iff.1 hst).1
  exact (hi.obj i _ _ (List.getElem?_eq_getElem hil) hst).1
/-- An array has room for what it holds. -/
theorem pw_room (i : Nat) {k cap : Nat} {xs : List PV} {c : Code} (hst : st[i]? = some (.arr k xs cap)) (h : xs.length ≤ cap → PW P Gl B c env st Q) : PW P Gl B c env st Q :=
  fun A w β tmps hi he => h (arr_room hi hst) A w β tmps hi he
theorem pl_room (i : Nat) {k cap : Nat} {xs : List PV} (hst : st[i]? = some (.arr k xs cap)) (h : xs.length ≤ cap → PWL P Gl B ops rest env st Q) : PWL P Gl B ops rest env st Q :=
  fun A w β tmps hi he => h (arr_room hi hst) A w β tmps hi he
theorem op_storeE' {K : PV → List PObj → Prop} {t : TypeId} {a y : Operand} {k i e off cap : Nat} {xs xs' : List PV} {x0 x1 p : PV} {ti : TI} (hT : Tys P tys) (ho : o.op = .store t a y) (ht : tys[t]? = some ti)
    (ha : pe env a = .eptr k i e off) (hp : pe env y = p) (hs : st[i]? = some (.arr k xs cap)) (hcap : cap ≠ 0) (hx : xs[e]? = some x0) (hk : p.okPart = true) (h1 : p.cells.all PV.one = true) (hr : p.cells.all (PV.refs (fun _ => false) 5) = true) (hsz : p.cells.length = ti.size) (hle : off + ti.size ≤ x0.cells.length)
    (hx1 : x1.cells = splice x0.cells off p.cells) (hset : xs.set e x1 = xs') (hK : K .any (st.set i (.arr k xs' cap))) : OpP P Gl B o env st K :=
  op_storeE hT ho ht ha hp hs hcap hx hk h1 hr hsz hle hx1 (by rw [hset]; exact hK)
/-- The rest of an array, behind its first elements, becomes a row; the array is given up. -/
theorem op_sliceF {K : PV → List PObj → Prop} {t : TypeId} {tx : Tmp} {lo : Option Operand} {s i n cap m : Nat} {xs : List PV} (hT : Tys P tys) (ho : o.op = .slice t (.tmp tx) lo none none) {el b z1 z2 : Nat} {z3 : Option (List PV)} (ht : tys[t]? = some ⟨.sl el s b, z1, z2, z3⟩)
    (hx : pe env (.tmp tx) = .msl s i 0 n cap) (hst : st[i]? = some (.arr s xs cap)) (hn : n = xs.length) (hl : bnd env 0 lo = some (m : Int)) (hm : m ≤ xs.length) (hs : xs.all (fun y => y.cells.length == s) = true) (hK : K (.sl (xs.drop m)) (st.set i .dead)) : OpP P Gl B o env st K := fun A w β tmps Q' hi he => by
  obtain ⟨A', hE, hden, hinv⟩ := hi.freeze (fun j => j == i)
  have hfs : ∀ (l : List PObj) (k : Nat), FSt (fun j => j == i) st k l (killF (fun j => j == i) k l) := fun l k => killF_spec _ st l k
  have hkill : ∀ (l : List PObj) (k : Nat), k ≤ i → killF (fun j => j == i) k l = l.set (i - k) .dead := by
    intro l
    induction l with
    | nil => intro k _; rfl
    | cons x l ih =>
      intro k hk
      by_cases hki : k = i
      · subst hki
        have : ∀ (l : List PObj) (n : Nat), k < n → killF (fun j => j == k) n l = l := by
          intro l
          induction l with
          | nil => intro n _; rfl
          | cons y l ih2 =>
            intro n hn
            rw [killF, ih2 (n + 1) (by omega)]
            have : (n == k) = false := by rw [beq_eq_false_iff_ne]; omega
            simp [this]
        rw [killF, this l (k + 1) (by omega)]
        simp
      · rw [killF, ih (k + 1) (by omega)]
        have h1 : (k == i) = false := by rw [beq_eq_false_iff_ne]; exact hki
        have h2 : i - k = (i - (k + 1)) + 1 := by omega
        simp only [h1, h2, List.set_cons_succ]
  have hi' := hinv _ (hfs st 0)
  rw [hkill st 0 (Nat.zero_le _), Nat.sub_zero] at hi'
  -- the frame in which the slice is a row
  have hrow : Den A' w β (.sl xs) ((⟨tmps.toArray, []⟩ : Act).eval (.tmp tx)) := by
    have hd := he.eval [] (.tmp tx)
    rw [hx] at hd
    exact hden 1 _ _ _ (.inr (.inr (.inr (.inl ⟨s, i, n, cap, s, xs, rfl, by simp, hst, hn, rfl⟩)))) hd
  have htx : tx < env.length := by
    rcases Nat.lt_or_ge tx env.length with h | h
    · exact h
    · simp [pe, List.getElem?_eq_none h] at hx
  have he' : EnvRel A' w β (env.set tx (.sl xs)) tmps := by
    refine ⟨by simp [he.1], fun j p v hp hv => ?_⟩
    rw [List.getElem?_set] at hp
    by_cases hj : tx = j
    · subst hj
      rw [if_pos rfl, if_pos htx] at hp
      cases hp
      simpa [Act.eval, hv] using hrow
    · rw [if_neg hj] at hp
      exact (he.2 j p v hp hv).mono hE (Pre.refl _)
  have hbnd : bnd (env.set tx (.sl xs)) 0 lo = some (m : Int) := by
    cases lo with
    | none => exact hl
    | some lo =>
      cases lo with
      | tmp tl =>
        simp only [bnd, pe] at hl ⊢
        rw [List.getElem?_set]
        by_cases hj : tx = tl
        · subst hj
          simp only [pe] at hx
          rw [hx] at hl
          cases hl
        · rw [if_neg hj]; exact hl
      | _ => exact hl
  have hv := v_slice (P := P) (Gl := Gl) (B := B) (o := o) (env := env.set tx (.sl xs)) (xs := xs) (l := m) (h := (xs.length : Int)) hT ho ht (by simp [pe, htx]) hbnd rfl (by omega) (by omega) (by omega) (fun y hy => by simpa using List.all_eq_true.1 hs y hy)
  obtain ⟨v, hrun, hdv⟩ := hv _ A' w β tmps hi' he'
  unfold Oper.wp
  rw [hrun]
  rw [Int.toNat_natCast, Int.toNat_natCast, List.take_length] at hdv
  exact ⟨v, _, _, A', β, rfl, hK, hdv, hi', hE, Pre.refl _⟩
/-- An element is read, in a region whose order is open. -/
theorem po_loadE {E : List PV → List PObj → List (Nat × Nat) → Prop} {rest : List (Nat × Bool)} {n : Nat} {L : List (Nat × Nat)} {oi : Oper} {t : TypeId} {a : Operand} {k i e off cap : Nat} {xs : List PV} {x0 x : PV} {ti : TI} (ho : ops[n]? = some oi) (hg : oi.guard = none) (hT : Tys P tys) (hop : oi.op = .load t a) (ht : tys[t]? = some ti) (hkn : ti.tk.known = true)
    (ha : pe (maskE (oi.looksAt ops) 0 env) a = .eptr k i e off) (hs : st[i]? = some (.arr k xs cap)) (hcap : cap ≠ 0) (hx : xs[e]? = some x0) (hp : part? ti.tk.agg x0.cells off ti.size = some x) (hr : PWO P Gl B ops E rest (putE env oi.dst x) st ((n, i) :: L)) :
    PWO P Gl B ops E ((n, true) :: rest) env st L := by
  unfold PWO
  refine ⟨oi, x, some i, ho, ?_, hr⟩
  unfold Free
  rw [hg]
  intro _ st' hpos
  exact op_loadE hT hop ht hkn ha ((hpos i rfl).trans hs) hcap hx hp ⟨rfl, rfl⟩
end
end Go.Pw
namespace Go.Pw
open Go
section
variable {P : Program} {Gl : Glob} {B : Base} {env : List PV} {st : List PObj} {ops : Array Oper} {rest : List Oper} {Q : Post}
theorem FLe.wipeF (F : Nat → Bool) (st : List PObj) : ∀ (l : List PV), LeBy (FLe F st 3) l (l.map (Pw.wipe fun i => !(F i)))
  | [] => trivial
  | x :: l => by
    refine ⟨?_, FLe.wipeF F st l⟩
    unfold Pw.wipe
    split
    · exact .inr (.inl rfl)
    · exact .inl rfl
/-- Arrays of the function's own are given up for rows, inside a region; what the frame knows of them is given up too. -/
theorem pl_freeze (F : Nat → Bool) {st' : List PObj} (hs : FSt F st 0 st st') (h : PWL P Gl B ops rest (env.map (wipe fun i => !(F i))) st' Q) : PWL P Gl B ops rest env st Q := fun A w β tmps hi he => by
  obtain ⟨A', hE, hden, hi'⟩ := hi.freeze F
  refine h A' w β tmps (hi' st' hs) ⟨by simp [he.1], fun i p v hp hv => ?_⟩
  obtain ⟨q, hq, hr⟩ := (FLe.wipeF F st env).get i p hp
  exact hden 3 q p v hr (he.2 i q v hq hv)
end
end Go.Pw
namespace Go.Pw
open Go
section
variable {P : Program} {Gl : Glob} {B : Base} {tys : List TI} {env : List PV} {st : List PObj} {Q : Post}
/-- As pw_joinX, wherever the normal end of a piece of code leads to a known piece. -/
theorem pw_joinY {α : Type} {st0 : List PObj} (hD : ∀ j, B.D j = dOf st0 j) {c y : Code} {Q2 : Post} (φ : α → Prop) (V : α → List (Nat × PV)) (S : α → List PObj) (n : Nat) {ds : List Nat} {E : α → List PV} (_hds : (forceN (dstsOf c) fun l => (l, ())) = (ds, ())) (_hM : ∀ a, (headK ds (V a) 0 env fun e => (e, ())) = (E a, ()))
    (hn : ∀ a, (Nat.ble st0.length n && Nat.beq (S a).length n) = true) (hr : ∀ a, ((E a).all (PV.refs (fun i => Nat.blt i n) 5) && (S a).all (PObj.refs (fun i => Nat.blt i n) 5)) = true)
    (hN : ∀ env st, PW P Gl B y env st Q2 → Q .normal env st)
    (h : PW P Gl B c env st (andThen (fun env' st' => ∃ a, φ a ∧ Le env' (E a) ∧ StLe (st'.take (S a).length) (S a)) Q)) (hK : ∀ a, φ a → PW P Gl B y (E a) (S a) Q2) : PW P Gl B c env st Q :=
  h.mono fun e env' st' hh => by
    cases e with
    | normal => obtain ⟨a, h1, h2, h3⟩ := hh; exact hN _ _ (pw_cut hD (hn a) (hr a) h2 h3 (hK a h1))
    | _ => exact hh
end
end Go.Pw
namespace Go.Pw
open Go
/-- What is to be shown behind a chain, out of sight of the rules that look at what is given. -/
structure Kp (X : Prop) : Prop where
  out : X
/-- A frame and a store, written out. -/
theorem zNp {G X : Prop} (k : X) (h : Kp X → G := by (intro zk; (first | refine pl_norm rfl ?_ | refine pl_normE rfl ?_); exact Kp.out zk)) : G := h ⟨k⟩
theorem zDn {G X : Prop} (k : X) (h : Kp X → G := by (intro zk; refine Go.Pw.po_norm rfl ?_; exact Kp.out zk)) : G := h ⟨k⟩
/-- What a frame says less. -/
theorem zLe {X : Prop} (h : X := by (repeat (first | trivial | refine ⟨.inr (.inl rfl), ?_⟩ | refine ⟨.inl rfl, ?_⟩ | refine ⟨.inr (.inr (.inl ⟨rfl, rfl⟩)), ?_⟩ | refine ⟨.inr (.inr (.inr (.inl ⟨rfl, _, _, rfl⟩))), ?_⟩))) : X := h
theorem zLes {X : Prop} (h : X := by (repeat (first | trivial | refine ⟨.inl rfl, ?_⟩ | refine ⟨.inr (.inl rfl), ?_⟩))) : X := h
theorem zLok {X : Prop} (h : X := by (repeat (first | trivial | refine ⟨.inr rfl, ?_⟩ | refine ⟨.inl (by decide +kernel), ?_⟩))) : X := h
theorem zLef {X : Prop} (h : X := by (repeat (first | trivial | refine ⟨.inr (.inl rfl), ?_⟩ | refine ⟨.inr (.inr (.inr (.inl ⟨_, _, _, _, _, _, rfl, rfl, rfl, rfl, rfl⟩))), ?_⟩ | refine ⟨.inr (.inr (.inr (.inr (.inl ⟨_, _, rfl, rfl, ?_⟩)))), ?_⟩))) : X := h
/-- The walk as far as no rule needs a word. -/
theorem zGo {G X : Prop} (k : X) (h : Kp X → G := by (intro zk; (repeat (first | refine pl_pure hT rfl ?_ | refine pl_nil ?_ | refine pw_seq ?_ | refine pw_region ?_ | refine pw_block ?_ | refine pl_gpure hT rfl ?_ | refine pw_skip ?_ | (refine pl_op rfl (op_box rfl rfl rfl ?_); (first | refine pl_norm rfl ?_ | refine pl_normE rfl ?_)) | (refine pl_op rfl (op_alloc hT rfl rfl ?_); (first | refine pl_norm rfl ?_ | refine pl_normE rfl ?_)) | (refine pl_op rfl (op_store hT rfl rfl rfl rfl rfl rfl rfl rfl (Nat.le_of_ble_eq_true rfl) ?_); (first | refine pl_norm rfl ?_ | refine pl_normE rfl ?_)) | (refine pl_op rfl (op_litF hT rfl rfl rfl rfl rfl (by decide) rfl rfl rfl rfl ?_); (first | refine pl_norm rfl ?_ | refine pl_normE rfl ?_)) | (refine pl_op rfl (op_of (v_arith rfl rfl rfl rfl (wrap_i64 (by omega) (by omega))) ?_); (first | refine pl_norm rfl ?_ | refine pl_normE rfl ?_)) | refine pw_condT rfl ?_ | refine pw_condF rfl ?_ | refine pw_exit ?_ | refine pw_ret ?_ | (refine pl_on rfl rfl (op_of (v_arith rfl rfl rfl rfl (wrap_i64 (by omega) (by omega))) ?_); (first | refine pl_norm rfl ?_ | refine pl_normE rfl ?_)))); exact Kp.out zk)) : G := h ⟨k⟩
theorem zGom {G X : Prop} (k : X) (h : Kp X → G := by (intro zk; (repeat (first | refine pl_pure hT rfl ?_ | refine pl_nil ?_ | refine pw_seq ?_ | refine pw_region ?_ | refine pw_block ?_ | refine pl_gpure hT rfl ?_ | refine pw_skip ?_ | (refine pl_op rfl (op_box rfl rfl rfl ?_); (first | refine pl_norm rfl ?_ | refine pl_normE rfl ?_)) | (refine pl_op rfl (op_alloc hT rfl rfl ?_); (first | refine pl_norm rfl ?_ | refine pl_normE rfl ?_)) | (refine pl_op rfl (op_store hT rfl rfl rfl rfl rfl rfl rfl rfl (Nat.le_of_ble_eq_true rfl) ?_); (first | refine pl_norm rfl ?_ | refine pl_normE rfl ?_)) | (refine pl_op rfl (op_of (v_arith rfl rfl rfl rfl (wrap_i64 (by omega) (by omega))) ?_); (first | refine pl_norm rfl ?_ | refine pl_normE rfl ?_)) | refine pw_condT rfl ?_ | refine pw_condF rfl ?_ | refine pw_exit ?_ | refine pw_ret ?_ | (refine pl_on rfl rfl (op_of (v_arith rfl rfl rfl rfl (wrap_i64 (by omega) (by omega))) ?_); (first | refine pl_norm rfl ?_ | refine pl_normE rfl ?_)))); exact Kp.out zk)) : G := h ⟨k⟩
theorem zDgo {G X : Prop} (k : X) (h : Kp X → G := by (intro zk; (repeat (first | refine po_free hT rfl ?_ | refine po_nil ?_ | (refine po_step rfl rfl (op_box rfl rfl rfl ⟨(by (repeat (first | trivial | refine ⟨.inr rfl, ?_⟩ | refine ⟨.inl (by decide +kernel), ?_⟩))), ?_⟩); refine po_norm rfl ?_) | (refine po_step rfl rfl (op_alloc hT rfl rfl ⟨(by (repeat (first | trivial | refine ⟨.inr rfl, ?_⟩ | refine ⟨.inl (by decide +kernel), ?_⟩))), ?_⟩); refine po_norm rfl ?_) | (refine po_step rfl rfl (op_store hT rfl rfl rfl rfl rfl rfl rfl rfl (Nat.le_of_ble_eq_true rfl) ⟨(by (repeat (first | trivial | refine ⟨.inr rfl, ?_⟩ | refine ⟨.inl (by decide +kernel), ?_⟩))), ?_⟩); refine po_norm rfl ?_) | (refine po_off rfl rfl rfl (by decide) ?_; refine po_norm rfl ?_) | (refine po_offN rfl rfl rfl ?_; refine po_norm rfl ?_) | (refine po_gval rfl rfl rfl (v_arith rfl rfl rfl rfl (wrap_i64 (by omega) (by omega))) ?_; refine po_norm rfl ?_) | (refine po_val rfl rfl (v_arith rfl rfl rfl rfl (wrap_i64 (by omega) (by omega))) ?_; refine po_norm rfl ?_))); exact Kp.out zk)) : G := h ⟨k⟩
end Go.Pw
namespace Go.Pw
open Go
/-- Bytes as the elements of a slice. -/
def eByte (b : UInt8) : PV := .int .u8 (b.toNat : Int)
theorem push_bytes : ∀ (bs acc : List UInt8), (bs.map fun b => (b.toNat : Int)).foldl (fun r n => r.push (UInt8.ofNat n.toNat)) (⟨acc.toArray⟩ : ByteArray) = ⟨(acc ++ bs).toArray⟩
  | [], acc => by simp
  | b :: bs, acc => by
    rw [List.map_cons, List.foldl_cons]
    have : (⟨acc.toArray⟩ : ByteArray).push (UInt8.ofNat ((b.toNat : Int)).toNat) = ⟨(acc ++ [b]).toArray⟩ := by
      simp [ByteArray.push]
    rw [this, push_bytes bs (acc ++ [b])]
    simp
theorem run_bstr {P : Program} (w : World) {s t e : TypeId} (a : Addr) (cap : Nat) (bs : List UInt8) (hs : P.underlying s = some (.slice e)) (he : P.underlying e = some (.int .u8)) (ht : P.underlying t = some .string)
    (hc : ∀ (j : Nat) b, bs[j]? = some b → w.cell? (a.add j) = some (.int .u8 (b.toNat : Int))) : (Go.convert s t (.slice (some a) bs.length cap)).run P w = .ok (.string ⟨bs.toArray⟩) w := by
  rw [run_convert_bytes_string w s t e (some a) bs.length cap hs he ht]
  have h := run_loadCells_list (P := P) (w := w) a ((bs.map fun b => (b.toNat : Int)).map (Value.int .u8)) (fun j v hv => by
    rw [List.getElem?_map, List.getElem?_map] at hv
    cases hb : bs[j]? with
    | none => rw [hb] at hv; cases hv
    | some b => rw [hb] at hv; cases hv; exact hc j b hb)
  rw [List.length_map, List.length_map] at h
  rw [run_bytesToString w a bs.length cap (bs.map fun b => (b.toNat : Int)) h]
  have := push_bytes bs []
  rw [List.nil_append] at this
  rw [← this]; rfl
section
variable {P : Program} {Gl : Glob} {B : Base} {tys : List TI} {env : List PV} {st : List PObj} {o : Oper}
theorem tkOf_slI {d : TypeDesc} {e s b : Nat} (h : TK.sl e s b = tkOf P d) : d = .slice e := by
  cases d <;> simp only [tkOf] at h <;> first | (cases h; done) | skip
  all_goals (split at h <;> cases h)
  rfl
/-- A row of bytes as a string. -/
theorem v_bstr {s t : TypeId} {x : Operand} {bs : List UInt8} (hT : Tys P tys) (ho : o.op = .convert s t x) {e es eb z1 z2 z4 z5 z7 z8 : Nat} {z3 z6 z9 : Option (List PV)} (hs : tys[s]? = some ⟨.sl e es eb, z1, z2, z3⟩) (he : tys[e]? = some ⟨.int .u8, z4, z5, z6⟩) (ht : tys[t]? = some ⟨.str, z7, z8, z9⟩)
    (hx : pe env x = .sl (bs.map eByte)) : OpV P Gl B o env (.str bs) := fun _ A w β tmps _ hE => by
  obtain ⟨_, d1, _, hu1, htk1, _⟩ := tyOf_spec (hT _ _ hs)
  obtain ⟨_, d2, _, hu2, htk2, _⟩ := tyOf_spec (hT _ _ he)
  obtain ⟨_, d3, _, hu3, htk3, _⟩ := tyOf_spec (hT _ _ ht)
  have q1 := tkOf_slI htk1
  have q2 := tkOf_int htk2
  have q3 := tkOf_str htk3
  subst q1 q2 q3
  refine ⟨.string ⟨bs.toArray⟩, ?_, .str ..⟩
  have hd := hE.eval [] x
  rw [hx] at hd
  generalize hv : (⟨tmps.toArray, []⟩ : Act).eval x = v at hd
  simp only [execOp, ho, hv]
  generalize hxs : bs.map eByte = xs at hd
  cases hd with
  | slnil =>
    have : bs = [] := by cases bs with | nil => rfl | cons b bs => cases hxs
    subst this
    simp [Go.convert, run_underlying hu1, run_underlying hu2, run_underlying hu3, Conv.bytesToString, Sem.run_bind, Sem.run_pure]
    rfl
  | sl _ k _ a cap f g1 g2 g3 g4 g5 g6 =>
    subst hxs
    have hr := run_bstr (P := P) w a cap bs hu1 hu2 hu3 (fun j b hb => by
      have hj : (bs.map eByte)[j]? = some (eByte b) := by rw [List.getElem?_map, hb]; rfl
      have hk : k = 1 := by rw [← g4 _ (List.mem_of_getElem? hj)]; rfl
      have hne : bs.map eByte ≠ [] := by intro h; rw [h] at hj; cases hj
      have h5 := g5 j _ 0 _ hj rfl
      have h6 := (g6 j _ 0 _ hj rfl).int_inv
      rw [h6, hk, Nat.mul_one, Nat.add_zero] at h5
      obtain ⟨ab, ao, asp⟩ := a
      have := (g1 hne).2
      simp only at this
      subst this
      rw [addr_add]
      exact h5)
    rw [List.length_map, Sem.run_bind, hr]
    simp
end
end Go.Pw
namespace Go.Pw
open Go
section
variable {P : Program} {Gl : Glob} {B : Base} {env : List PV} {st : List PObj} {Q : Post}
theorem LeBy.put {R : PV → PV → Prop} : ∀ {xs ys : List PV} {t : Nat} {x y : PV}, LeBy R xs ys → xs[t]? = some x → R x y → LeBy R xs (ys.set t y)
  | [], [], _, _, _, _, h, _ => by simp at h
  | x :: xs, y :: ys, 0, _, _, h, hx, hr => by cases hx; exact ⟨hr, h.2⟩
  | x :: xs, y :: ys, t + 1, _, _, h, hx, hr => ⟨h.1, LeBy.put h.2 (by simpa using hx) hr⟩
  | [], _ :: _, _, _, _, h, _, _ => h.elim
  | _ :: _, [], _, _, _, h, _, _ => h.elim
/-- An array of the function's own is given up for a row, which a temporary goes on to hold. -/
theorem pw_frz1 (i t : Nat) {c : Code} {k m cap k' : Nat} {xs : List PV} (ht : env[t]? = some (.msl k i 0 m cap)) (hst : st[i]? = some (.arr k' xs cap)) (hm : m = xs.length)
    (h : PW P Gl B c ((env.map (wipe fun j => !(j == i))).set t (.sl xs)) (killF (fun j => j == i) 0 st) Q) : PW P Gl B c env st Q :=
  pw_freeze (fun j => j == i) (killF_spec _ st st 0) (LeBy.put (FLe.wipeF _ st env) ht (.inr (.inr (.inr (.inl ⟨k, i, m, cap, k', xs, rfl, by simp, hst, hm, rfl⟩))))) h
end
end Go.Pw
