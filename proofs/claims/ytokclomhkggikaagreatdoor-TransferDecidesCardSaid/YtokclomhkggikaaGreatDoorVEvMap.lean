/-
 Maps.
 What the reckoner says is true.
-/
import Derived.Maps.Keyed
import Derived.DeepKeys3
import Derived.Laws.World
import Derived.Test.YtokclomhkggikaaGreatDoorVEvApp3
namespace Go.Ev
open Go
noncomputable section
section key
variable {β : List Nat}
theorem den_keyV1 {p : V} {v u : Value} (h : Den β p v) (hu : keyV1 p = some u) : v = u := by
 cases h <;> simp only [keyV1] at hu <;> first | (cases hu; rfl) | cases hu
theorem keyVs_get : ∀ {cs : List V} {vs : List Value}, keyVs cs = some vs → cs.length = vs.length ∧ ∀ (j : Nat) c v, cs[j]? = some c → vs[j]? = some v → keyV1 c = some v
 | [], vs, h => by cases h; exact ⟨rfl, fun j c v hc => by simp at hc⟩
 | p :: l, vs, h => by
  unfold keyVs at h
  split at h
  ·rename_i v vs' h1 h2
   cases h
   obtain ⟨g1, g2⟩ := keyVs_get h2
   refine ⟨by simp [g1], fun j c u hc hu => ?_⟩
   cases j with
   | zero => simp at hc hu; subst hc hu; exact h1
   | succ j => exact g2 j c u (by simpa using hc) (by simpa using hu)
  ·cases h
theorem den_keyV {p : V} {v u : Value} (h : Den β p v) (hu : keyV p = some u) : v = u := by
 unfold keyV at hu
 split at hu
 ·rename_i cs
  split at hu
  ·rename_i vs hvs
   cases hu
   obtain ⟨us, rfl, hl, _⟩ := h.agg_inv
   obtain ⟨g1, g2⟩ := keyVs_get hvs
   congr 2
   refine List.ext_getElem? fun j => ?_
   have hl1 := hl.1
   by_cases hj : j < cs.length
   ·have e1 : cs[j]? = some cs[j] := List.getElem?_eq_getElem hj
    have e2 : us[j]? = some (us[j]'(by omega)) := List.getElem?_eq_getElem (by omega)
    have e3 : vs[j]? = some (vs[j]'(by omega)) := List.getElem?_eq_getElem (by omega)
    rw [e2, e3, den_keyV1 (hl.2 j _ _ e1 e2) (g2 j _ _ e1 e3)]
   ·rw [List.getElem?_eq_none (by omega), List.getElem?_eq_none (by omega)]
  ·cases hu
 ·exact den_keyV1 h hu
theorem keyNe1_ne {a b : V} {u v : Value} (h : keyNe1 a b = true) (hu : keyV1 a = some u) (hv : keyV1 b = some v) : u ≠ v := by
 unfold keyNe1 at h
 split at h
 ·cases hu; cases hv; intro e; injection e with _ e; subst e; rw [eqI_eq] at h; simp at h
 ·cases hu; cases hv
  intro e
  injection e with e
  have := congrArg (fun x : ByteArray => x.data.toList) e
  simp at this
  subst this
  rw [eqB_eq] at h; simp at h
 ·cases hu; cases hv; intro e; injection e with e; subst e; simp at h
 ·cases h
theorem keyNes_ne : ∀ {a b : List V} {u v : List Value}, keyNes a b = true → keyVs a = some u → keyVs b = some v → u ≠ v
 | a :: l, b :: m, u, v, h, hu, hv => by
  unfold keyVs at hu hv
  split at hu
  ·rename_i x xs h1 h2
   cases hu
   split at hv
   ·rename_i y ys h3 h4
    cases hv
    intro e
    injection e with e1 e2
    unfold keyNes at h
    rw [Bool.or_eq_true] at h
    rcases h with h | h
    ·exact keyNe1_ne h h1 h3 e1
    ·exact keyNes_ne h h2 h4 e2
   ·cases hv
  ·cases hu
 | [], [], _, _, h, _, _ => by cases h
 | [], _ :: _, _, _, h, _, _ => by cases h
 | _ :: _, [], _, _, h, _, _ => by cases h
theorem keyNe_ne {a b : V} {u v : Value} (h : keyNe a b = true) (hu : keyV a = some u) (hv : keyV b = some v) : u ≠ v := by
 unfold keyNe at h
 split at h
 ·rename_i cs ds
  simp only [keyV] at hu hv
  split at hu
  ·rename_i us h1
   cases hu
   split at hv
   ·rename_i vs h2
    cases hv
    intro e
    injection e with e
    exact keyNes_ne h h1 h2 (by simpa using congrArg Array.toList e)
   ·cases hv
  ·cases hu
 ·revert h
  cases a <;> cases b <;> intro h <;> first | (cases h; done) | exact keyNe1_ne h hu hv
theorem keyEq1_eq {a b : V} (h : keyEq1 a b = true) : a = b := by
 unfold keyEq1 at h
 split at h
 ·rw [Bool.and_eq_true, eqI_eq] at h; rw [eqKd_sound h.1, eq_of_beq h.2]
 ·rw [eqB_eq] at h; rw [eq_of_beq h]
 ·rw [eq_of_beq h]
 ·cases h
theorem keyEqs_eq : ∀ {a b : List V}, keyEqs a b = true → a = b
 | [], [], _ => rfl
 | a :: l, b :: m, h => by
  unfold keyEqs at h
  rw [Bool.and_eq_true] at h
  rw [keyEq1_eq h.1, keyEqs_eq h.2]
 | [], _ :: _, h => by cases h
 | _ :: _, [], h => by cases h
theorem keyEq_eq {a b : V} (h : keyEq a b = true) : a = b := by
 unfold keyEq at h
 split at h
 ·rw [keyEqs_eq h]
 ·exact keyEq1_eq h
theorem findI_spec {kv : V} : ∀ {es : Es} {r : Option Nat}, findI kv es = some r → match r with
  | some j => (∃ e, es[j]? = some e ∧ e.2.1 = kv) ∧ ∀ (i : Nat) e, es[i]? = some e → i ≠ j → keyNe e.2.1 kv = true
  | none => ∀ e ∈ es, keyNe e.2.1 kv = true
 | [], r, h => by cases h; intro e he; cases he
 | x :: es, r, h => by
  unfold findI at h
  split at h
  ·rename_i hx
   split at h
   ·rename_i ha
    cases h
    refine ⟨⟨x, rfl, keyEq_eq hx⟩, fun i e hi hne => ?_⟩
    cases i with
    | zero => exact absurd rfl hne
    | succ i => exact List.all_eq_true.1 ha e (List.mem_of_getElem? (by simpa using hi))
   ·cases h
  ·split at h
   ·rename_i hx
    split at h
    ·rename_i j hj
     cases h
     obtain ⟨⟨e, h1, h2⟩, h3⟩ := findI_spec hj
     refine ⟨⟨e, by simpa using h1, h2⟩, fun i e hi hne => ?_⟩
     cases i with
     | zero => simp at hi; subst hi; exact hx
     | succ i => exact h3 i e (by simpa using hi) (by omega)
    ·rename_i hj
     cases h
     have h3 := findI_spec hj
     intro e he
     rcases List.mem_cons.1 he with rfl | he
     ·exact hx
     ·exact h3 e he
    ·cases h
   ·cases h
end key
section
variable {P : Program} {gl : List (Nat × List V)} {CO : Call → Prop} {β : List Nat} {w : World}
theorem keyB_spec {t k : TypeId} (h : keyB P t = some k) : ∃ e, P.underlying t = some (.map k e) ∧ Maps.Keyed P k := by
 unfold keyB at h
 split at h
 ·rename_i k' e hu
  split at h
  ·rename_i hk; cases h; exact ⟨e, hu, Maps.string_keyed hk⟩
  ·rename_i hk; cases h; exact ⟨e, hu, Maps.int_keyed hk⟩
  ·rename_i hk; cases h; exact ⟨e, hu, Maps.bool_keyed hk⟩
  ·rename_i hk
   split at h
   ·rename_i hb
    cases h
    rw [Bool.and_eq_true] at hb
    exact ⟨e, hu, Maps.Keyed.of_law (deep_law (m := 20) (by omega) hb.1 hb.2 (by rw [hk]))⟩
   ·cases h
  ·rename_i hk
   split at h
   ·rename_i hb
    cases h
    rw [Bool.and_eq_true] at hb
    exact ⟨e, hu, Maps.Keyed.of_law (deep_law (m := 20) (by omega) hb.1 hb.2 (by rw [hk]))⟩
   ·cases h
  ·cases h
 ·cases h
def EntR (β : List Nat) (es : Es) (mes : List MapEntry) : Prop := mes.length = es.length ∧ ∀ (j bn : Nat) k v, es[j]? = some (bn, k, v) → ∃ e, mes[j]? = some e ∧ e.born = bn ∧ keyV k = some e.key ∧ Den β v e.val
theorem keyS_spec {k : TypeId} {kv : V} (h : keyS P k kv = true) : ∃ u l, keyV kv = some u ∧ keyOf P k u = some l := by
 unfold keyS at h
 split at h
 ·rename_i u hu
  obtain ⟨l, hl⟩ := Option.isSome_iff_exists.1 h
  exact ⟨u, l, hu, hl⟩
 ·cases h
theorem onMap_some {st : St} (hok : st.Ok) {B : Base} (hi : Inv gl B w β (lst st)) {m : V} {vm : Value} (hm : Den β m vm) {f : Nat → Es → Nat → R} {outs : List Dl} (h : onMap st m f = some outs) :
  ∃ i es c b mes, m = .map i ∧ β[i]? = some b ∧ vm = .map (some b) ∧ (lst st)[i]? = some (.kmap es c) ∧ f i es c = some outs ∧ w.heap[b]? = some (.map mes.toArray c) ∧ EntR β es mes := by
 cases m <;> first | (cases h; done) | skip
 rename_i i
 cases hm with
 | map _ b hb =>
 obtain ⟨ob, h1, h2⟩ := obj_some hok h
 cases ob <;> first | (cases h1; done) | skip
 rename_i es c
 rcases h2 with h2 | h2
 ·cases h2
 obtain ⟨mes, g1, g2, g3⟩ := hi.obj i b _ hb h2
 exact ⟨i, es, c, b, mes, rfl, hb, rfl, h2, h1, g1, g2, g3⟩
theorem atKey_some {st : St} (hok : st.Ok) {B : Base} (hi : Inv gl B w β (lst st)) {k : TypeId} (T : Maps.Keyed P k) {m kv : V} {vm x : Value} (hm : Den β m vm) (hx : Den β kv x) {f : Nat → Es → Nat → Option Nat → R} {outs : List Dl} (h : atKey P k st m kv f = some outs) :
  ∃ i es c b mes r l, m = .map i ∧ β[i]? = some b ∧ vm = .map (some b) ∧ (lst st)[i]? = some (.kmap es c) ∧ f i es c r = some outs ∧ w.heap[b]? = some (.map mes.toArray c) ∧ EntR β es mes ∧ keyV kv = some x ∧ keyOf P k x = some l ∧
   match r with
   | some j => ∃ e me, es[j]? = some e ∧ mes[j]? = some me ∧ me.born = e.1 ∧ me.key = x ∧ Den β e.2.2 me.val ∧ ∀ w', (Instr.findKey k x mes).run P w' = .ok (some (j, me.val)) w'
   | none => ∀ w', (Instr.findKey k x mes).run P w' = .ok none w' := by
 obtain ⟨i, es, c, b, mes, rfl, hb, rfl, ho, h1, hw, he⟩ := onMap_some hok hi hm h
 obtain ⟨hk, h2⟩ := iff_some h1
 rw [Bool.and_eq_true] at hk
 obtain ⟨u, l, hu, hl⟩ := keyS_spec hk.1
 have hxu := den_keyV hx hu
 subst hxu
 have keys : ∀ e ∈ mes, ∃ l, keyOf P k e.key = some l := fun e hm' => by
  obtain ⟨j, hj⟩ := List.mem_iff_getElem?.1 hm'
  have hlt : j < es.length := by rw [← he.1]; exact (List.getElem?_eq_some_iff.1 hj).1
  obtain ⟨e', g1, _, g2, _⟩ := he.2 j es[j].1 es[j].2.1 es[j].2.2 (List.getElem?_eq_getElem hlt)
  rw [hj] at g1; cases g1
  obtain ⟨u', l', q1, q2⟩ := keyS_spec (List.all_eq_true.1 hk.2 es[j] (List.getElem_mem hlt))
  rw [g2] at q1; cases q1
  exact ⟨l', q2⟩
 split at h2
 ·rename_i r hr
  refine ⟨i, es, c, b, mes, r, l, rfl, hb, rfl, ho, h2, hw, he, hu, hl, ?_⟩
  have hs := findI_spec hr
  cases r with
  | none =>
   intro w'
   rcases T.find w' hl mes keys with ⟨g, _⟩ | ⟨j, e, _, hj, hke⟩
   ·exact g
   ·have hlt : j < es.length := by rw [← he.1]; exact (List.getElem?_eq_some_iff.1 hj).1
    obtain ⟨e', g1, _, g2, _⟩ := he.2 j es[j].1 es[j].2.1 es[j].2.2 (List.getElem?_eq_getElem hlt)
    rw [hj] at g1; cases g1
    exact absurd hke (keyNe_ne (hs es[j] (List.getElem_mem hlt)) g2 hu)
  | some j =>
   obtain ⟨⟨e, h3, h4⟩, h5⟩ := hs
   obtain ⟨me, g1, g2, g3, g4⟩ := he.2 j e.1 e.2.1 e.2.2 h3
   rw [h4, hu] at g3
   cases g3
   refine ⟨e, me, h3, g1, g2, rfl, g4, fun w' => ?_⟩
   rcases T.find w' hl mes keys with ⟨_, g⟩ | ⟨q, e', k1, k2, k3⟩
   ·exact absurd rfl (g me (List.mem_of_getElem? g1))
   ·by_cases hq : q = j
    ·subst hq
     rw [g1] at k2; cases k2
     exact k1
    ·have hlt : q < es.length := by rw [← he.1]; exact (List.getElem?_eq_some_iff.1 k2).1
     obtain ⟨e2, q1, _, q2, _⟩ := he.2 q es[q].1 es[q].2.1 es[q].2.2 (List.getElem?_eq_getElem hlt)
     rw [k2] at q1; cases q1
     exact absurd k3 (keyNe_ne (h5 q es[q] (List.getElem?_eq_getElem hlt) hq) q2 hu)
 ·cases h2
theorem ok_mkmap {t : TypeId} : SemOk P gl CO (.makeMap t none) sMkMap := fun o ho call hc env st K outs hok h B w β tmps Q hi he => by
 have hrun : (execOp (⟨tmps.toArray, []⟩ : Act).eval o).run P w = .ok (.value (.map (some w.heap.size))) (w.alloc (.map #[] 0)) := by
  simp only [execOp, ho, Instr.makeMap, Option.map_none, Sem.run_bind, run_newObj_alloc, Result.andThen_ok, Sem.run_pure]
 unfold Oper.wp
 rw [hrun]
 have h1 : K (.map st.n) (st.add (.kmap [] 0)) = some outs := h
 have hlen := hi.len
 have hln := lst_len hok
 refine ⟨_, _, st.add (.kmap [] 0), β ++ [w.heap.size], rfl, .of h1, add_good hok _, .map _ _ (by rw [← hln, ← hlen]; simp), ?_, Pre.snoc _ _⟩
 rw [add_lst]
 refine hi.alloc (.map #[] 0) ⟨[], ?_, rfl, by intro j bn k v h; simp at h⟩
 show (w.heap.push _)[w.heap.size]? = _
 simp
theorem den_cvAgg {v : Value} (hc : constOk v = true) (β : List Nat) : Den β (cvAgg v) v := by
 obtain ⟨p, h1, h2⟩ := opG_den (β := β) (env := env0) (tmps := []) (fun t ht => by rw [getE_env0]; exact .any _) (x := .const v) (k := fun p => some [⟨[p], [], []⟩]) (outs := [⟨[cvAgg v], [], []⟩]) (by
  change (opC (.const v)).v env0 _ = _
  simp only [opC, hc, fV_eq, constG])
 cases h2
 exact h1
theorem zcell_eq {γ : Type} {e : TypeId} (c : Option V → γ) : (∃ zv, (∀ w, (zeroValue e).run P w = .ok zv w) ∧ (∀ β, Den β (cvAgg zv) zv) ∧ zcell P e c = c (some (cvAgg zv))) ∨ zcell P e c = c none := by
 unfold zcell
 cases hi : P.info? e with
 | none => exact .inr rfl
 | some i =>
  cases hz : i.zero with
  | none => right; simp only [hz]
  | some zv =>
   cases hc : constOk zv with
   | false => right; simp only [hz, hc]
   | true => left; exact ⟨zv, run_zero hi hz, den_cvAgg hc, by simp only [hz, hc, fV_eq]⟩
theorem setE1_eq {st : St} {i : Nat} (hi : i < st.n) (c : Nat) (es : Es) (k : St → R) : setE1 st i c es k = k (st.put i (.kmap es c)) := by
 unfold setE1
 rw [mapK_eq (fun e => e) (fun x k => fE_eq x k)]
 simp only [fNat_eq, List.map_id']
 exact set_eq hi _ k
theorem writeM {B : Base} {st : List O} (hi : Inv gl B w β st) {i b c c' : Nat} {es es' : Es} {mes' : List MapEntry} (hb : β[i]? = some b) (ho : st[i]? = some (.kmap es c)) (he : EntR β es' mes') :
  Inv gl B { w with heap := w.heap.setIfInBounds b (.map mes'.toArray c') } β (st.set i (.kmap es' c')) := by
 have hlt : b < w.heap.size := (hi.obj i b _ hb ho).lt rfl
 refine hi.write (w' := { w with heap := w.heap.setIfInBounds b (.map mes'.toArray c') }) hb ho rfl (by simp) rfl rfl rfl (fun k hk => ?_) ⟨mes', ?_, he.1, he.2⟩
 ·show (w.heap.setIfInBounds b _)[k]? = _
  rw [Array.getElem?_setIfInBounds_ne (by omega)]
 ·show (w.heap.setIfInBounds b _)[b]? = _
  rw [Array.getElem?_setIfInBounds_self_of_lt hlt]
theorem EntR.snoc {es : Es} {mes : List MapEntry} (h : EntR β es mes) {c : Nat} {kv x : V} {u v : Value} (hu : keyV kv = some u) (hx : Den β x v) : EntR β (es ++ [(c, kv, x)]) (mes ++ [{ key := u, val := v, born := c }]) := by
 refine ⟨by simp [h.1], fun j bn kk v' hj => ?_⟩
 have hl := h.1
 by_cases hjl : j < es.length
 ·rw [List.getElem?_append_left hjl] at hj
  obtain ⟨e', g1, g2⟩ := h.2 j bn kk v' hj
  exact ⟨e', by rw [List.getElem?_append_left (by omega)]; exact g1, g2⟩
 ·rw [List.getElem?_append_right (by omega)] at hj
  cases hz : j - es.length with
  | zero =>
   rw [hz] at hj
   simp at hj
   obtain ⟨rfl, rfl, rfl⟩ := hj
   exact ⟨_, by rw [List.getElem?_append_right (by omega), hl, hz]; rfl, rfl, hu, hx⟩
  | succ n => rw [hz] at hj; simp at hj
theorem EntR.set {es : Es} {mes : List MapEntry} (h : EntR β es mes) {j bn : Nat} {kv x : V} {u v : Value} (hj : j < es.length) (hu : keyV kv = some u) (hx : Den β x v) : EntR β (es.set j (bn, kv, x)) (mes.set j { key := u, val := v, born := bn }) := by
 have hl := h.1
 refine ⟨by simp [hl], fun q bn' kk v' hq => ?_⟩
 rw [List.getElem?_set] at hq
 split at hq
 ·rename_i hjq
  subst hjq
  cases hq
  exact ⟨_, by rw [List.getElem?_set_self (by omega)], rfl, hu, hx⟩
 ·rename_i hjq
  obtain ⟨e', g1, g2⟩ := h.2 q bn' kk v' hq
  exact ⟨e', by rw [List.getElem?_set, if_neg hjq]; exact g1, g2⟩
theorem modify_eq {mes : List MapEntry} {j : Nat} {me : MapEntry} (hj : mes[j]? = some me) (f : MapEntry → MapEntry) : mes.toArray.modify j f = (mes.set j (f me)).toArray := by
 have hjl : j < mes.length := (List.getElem?_eq_some_iff.1 hj).1
 apply Array.ext'
 apply List.ext_getElem?
 intro q
 rw [Array.getElem?_toList, Array.getElem?_modify]
 simp only [List.getElem?_toArray, List.getElem?_set, hjl, if_true]
 by_cases hq : j = q
 ·subst hq; simp [hj]
 ·simp [hq]
theorem ok_mapUpd {t k : TypeId} {m x v : Operand} {op : Op} (hop : op = .mapUpdate t m x v ∨ op = .insert t m x v) (hk : keyB P t = some k) : SemOk P gl CO op (sMapUpd P k (opG m) (opG x) (opG v)) := fun o ho call hc env st K outs hok h B w β tmps Q hi he => by
 obtain ⟨e, hu, T⟩ := keyB_spec hk
 obtain ⟨kv, hkv, h1⟩ := opG_den he h
 obtain ⟨y, hy, h2⟩ := opG_den he h1
 obtain ⟨mv, hmv, h3⟩ := opG_den he h2
 obtain ⟨i, es, c, b, mes, r, l, rfl, hb, hvm, hob, h4, hw, hent, hku, hl, hr⟩ := atKey_some hok hi T hmv hkv h3
 have hin : i < st.n := by rw [← lst_len hok]; exact (List.getElem?_eq_some_iff.1 hob).1
 unfold Oper.wp
 cases r with
 | none =>
  have hrun : (execOp (⟨tmps.toArray, []⟩ : Act).eval o).run P w = .ok .skip { w with heap := w.heap.setIfInBounds b (.map (mes ++ [({ key := (⟨tmps.toArray, []⟩ : Act).eval x, val := (⟨tmps.toArray, []⟩ : Act).eval v, born := c } : MapEntry)]).toArray (c + 1)) } := by
   rcases hop with rfl | rfl <;> (simp only [execOp, ho, Instr.mapUpdate, Sem.run_bind, run_underlying hu, Result.andThen_ok, hvm, MapKept.run_getObj_map hw, T.check w false hl, hr w, MapKept.run_setObj_map _ hw, Sem.run_pure, List.push_toArray]; try rfl)
  rw [hrun]
  simp only [setE1_eq hin] at h4
  refine ⟨_, .any, st.put i _, β, rfl, .of h4, put_good hok hin _, .any _, ?_, .refl _⟩
  rw [put_lst hok hin]
  exact writeM hi hb hob (hent.snoc hku hy)
 | some j =>
  obtain ⟨en, me, g1, g2, g3, g4, g5, g6⟩ := hr
  have hjl : j < es.length := (List.getElem?_eq_some_iff.1 g1).1
  simp only [nthF_eq, g1, Option.bind_some, setE1_eq hin] at h4
  have hst := T.stays w hl
  have hrun : (execOp (⟨tmps.toArray, []⟩ : Act).eval o).run P w = .ok .skip { w with heap := w.heap.setIfInBounds b (.map (mes.set j ({ key := (⟨tmps.toArray, []⟩ : Act).eval x, val := (⟨tmps.toArray, []⟩ : Act).eval v, born := en.1 } : MapEntry)).toArray c) } := by
   have hje : mes.toArray[j]? = some me := by simpa using g2
   have hmod : mes.toArray.modify j (fun e => { e with key := (⟨tmps.toArray, []⟩ : Act).eval x, val := (⟨tmps.toArray, []⟩ : Act).eval v }) = (mes.set j ({ key := (⟨tmps.toArray, []⟩ : Act).eval x, val := (⟨tmps.toArray, []⟩ : Act).eval v, born := en.1 } : MapEntry)).toArray := by
    rw [modify_eq g2, g3]
   rcases hop with rfl | rfl <;> (simp only [execOp, ho, Instr.mapUpdate, Sem.run_bind, run_underlying hu, Result.andThen_ok, hvm, MapKept.run_getObj_map hw, T.check w false hl, g6 w, hje, Option.map_some, Option.getD_some, g4, hst, hmod, MapKept.run_setObj_map _ hw, Sem.run_pure])
  rw [hrun]
  refine ⟨_, .any, st.put i _, β, rfl, .of h4, put_good hok hin _, .any _, ?_, .refl _⟩
  rw [put_lst hok hin]
  exact writeM hi hb hob (hent.set hjl hku hy)
def okW (ok : Bool) (v : V) (f : Bool) : V := match ok with
 | true => .tup [v, .bool f]
 | false => v
theorem okRes_some {ok f : Bool} {v : V} {K : V → R} {outs : List Dl} (h : okRes ok v f K = some outs) : K (okW ok v f) = some outs := by
 cases ok <;> exact h
theorem okRes_den {ok f : Bool} {v : V} {u : Value} (h : Den β v u) : Den β (okW ok v f) (if ok then .tuple #[u, .bool f] else u) := by
 cases ok with
 | true => exact DenL.tup (vs := [u, .bool f]) (.cons h (.cons (.bool f) .nil))
 | false => exact h
theorem map_elem {t k e e' k' : TypeId} (hu : P.underlying t = some (.map k e)) (ht : tkT P t = some (.map k' e')) : e' = e := by
 obtain ⟨i, d, _, h1, h2⟩ := tkT_spec ht
 rw [hu] at h1
 cases h1
 simp only [tkOf] at h2
 cases h2; rfl
theorem ok_lookup {t k k' e : TypeId} {m x : Operand} {ok : Bool} {zv : Value} (hk : keyB P t = some k) (ht : tkT P t = some (.map k' e)) (hz : ∀ w, (zeroValue e).run P w = .ok zv w) (hzd : ∀ β, Den β (cvAgg zv) zv) :
  ValOk P gl CO (.lookup t m x ok) (sLookup P k (cvAgg zv) (opG m) (opG x) ok) := fun o ho call hc env st K outs hok h B w β tmps hi he => by
 obtain ⟨e0, hu, T⟩ := keyB_spec hk
 obtain rfl := map_elem hu ht
 obtain ⟨kv, hkv, h1⟩ := opG_den he h
 obtain ⟨mv, hmv, h2⟩ := opG_den he h1
 by_cases hn : mv = .nilmap
 ·subst hn
  obtain ⟨h3, h4⟩ := iff_some h2
  obtain ⟨u, l, hku, hl⟩ := keyS_spec h3
  have hxu := den_keyV hkv hku
  rw [fV_eq] at h4
  have hf : (Instr.findKey k u []).run P w = .ok none w := by
   rcases T.find w hl [] (fun e he => by cases he) with ⟨g, _⟩ | ⟨j, e, _, hj, _⟩
   ·exact g
   ·simp at hj
  have hvm : (⟨tmps.toArray, []⟩ : Act).eval m = .map none := (show ∀ {v : Value}, Den β .nilmap v → v = .map none from fun h => by cases h; rfl) hmv
  refine ⟨_, _, ?_, okRes_den (hzd β), .of (okRes_some h4)⟩
  simp only [execOp, ho, Instr.lookup, Sem.run_bind, run_underlying hu, Result.andThen_ok, hvm, Sem.run_pure, hxu, T.check w _ hl, hf, hz w]
 ·have h3 : atKey P k st mv kv (fun _ es _ r => match r with
   | some j => nthF es j fun e => okRes ok e.2.2 true fun v => K v st
   | none => fV (cvAgg zv) fun z => okRes ok z false fun v => K v st) = some outs := by
   cases mv <;> first | exact h2 | exact absurd rfl hn
  obtain ⟨i, es, c, b, mes, r, l, rfl, hb, hvm, hob, h4, hw, hent, hku, hl, hr⟩ := atKey_some hok hi T hmv hkv h3
  cases r with
  | none =>
   simp only [fV_eq] at h4
   refine ⟨_, _, ?_, okRes_den (hzd β), .of (okRes_some h4)⟩
   simp only [execOp, ho, Instr.lookup, Sem.run_bind, run_underlying hu, Result.andThen_ok, hvm, MapKept.run_getObj_map hw, Sem.run_pure, T.check w _ hl, hr w, hz w]
  | some j =>
   obtain ⟨en, me, g1, g2, g3, g4, g5, g6⟩ := hr
   simp only [nthF_eq, g1, Option.bind_some] at h4
   refine ⟨_, _, ?_, okRes_den g5, .of (okRes_some h4)⟩
   simp only [execOp, ho, Instr.lookup, Sem.run_bind, run_underlying hu, Result.andThen_ok, hvm, MapKept.run_getObj_map hw, Sem.run_pure, T.check w _ hl, g6 w]
theorem ok_mapEntry {t k k' e : TypeId} {m x : Operand} {zv : Value} (hk : keyB P t = some k) (ht : tkT P t = some (.map k' e)) (hz : ∀ w, (zeroValue e).run P w = .ok zv w) (hzd : ∀ β, Den β (cvAgg zv) zv) :
  SemOk P gl CO (.mapEntry t m x) (sMapEntry P k (cvAgg zv) (opG m) (opG x)) := fun o ho call hc env st K outs hok h B w β tmps Q hi he => by
 obtain ⟨e0, hu, T⟩ := keyB_spec hk
 obtain rfl := map_elem hu ht
 obtain ⟨kv, hkv, h1⟩ := opG_den he h
 obtain ⟨mv, hmv, h3⟩ := opG_den he h1
 obtain ⟨i, es, c, b, mes, r, l, rfl, hb, hvm, hob, h4, hw, hent, hku, hl, hr⟩ := atKey_some hok hi T hmv hkv h3
 have hin : i < st.n := by rw [← lst_len hok]; exact (List.getElem?_eq_some_iff.1 hob).1
 have pair : ∀ {β' : List Nat} {v : V} {u : Value} (n : Nat), Den β' v u → Den β' (.tup [v, .int .i64 (.ofNat n)]) (.tuple #[u, goInt n]) := fun n hd => DenL.tup (vs := [_, goInt n]) (.cons hd (.cons (.int .i64 _) .nil))
 unfold Oper.wp
 cases r with
 | none =>
  have hrun : (execOp (⟨tmps.toArray, []⟩ : Act).eval o).run P w = .ok (.value (.tuple #[zv, goInt c])) { w with heap := w.heap.setIfInBounds b (.map (mes ++ [({ key := (⟨tmps.toArray, []⟩ : Act).eval x, val := zv, born := c } : MapEntry)]).toArray (c + 1)) } := by
   simp only [execOp, ho, Instr.mapEntry, Sem.run_bind, run_underlying hu, Result.andThen_ok, hvm, MapKept.run_getObj_map hw, T.check w false hl, hr w, hz w, MapKept.run_setObj_map _ hw, Sem.run_pure, List.push_toArray]
  rw [hrun]
  simp only [fV_eq, setE1_eq hin] at h4
  refine ⟨_, _, st.put i _, β, rfl, .of h4, put_good hok hin _, pair c (hzd β), ?_, .refl _⟩
  rw [put_lst hok hin]
  exact writeM hi hb hob (hent.snoc hku (hzd β))
 | some j =>
  obtain ⟨en, me, g1, g2, g3, g4, g5, g6⟩ := hr
  have hjl : j < es.length := (List.getElem?_eq_some_iff.1 g1).1
  simp only [nthF_eq, g1, Option.bind_some, setE1_eq hin] at h4
  have hst := T.stays w hl
  have hrun : (execOp (⟨tmps.toArray, []⟩ : Act).eval o).run P w = .ok (.value (.tuple #[me.val, goInt en.1])) { w with heap := w.heap.setIfInBounds b (.map (mes.set j ({ key := (⟨tmps.toArray, []⟩ : Act).eval x, val := me.val, born := en.1 } : MapEntry)).toArray c) } := by
   have hje : mes.toArray[j]? = some me := by simpa using g2
   have hmod : mes.toArray.modify j (fun e => { e with key := (⟨tmps.toArray, []⟩ : Act).eval x }) = (mes.set j ({ key := (⟨tmps.toArray, []⟩ : Act).eval x, val := me.val, born := en.1 } : MapEntry)).toArray := by
    rw [modify_eq g2, g3]
   simp only [execOp, ho, Instr.mapEntry, Sem.run_bind, run_underlying hu, Result.andThen_ok, hvm, MapKept.run_getObj_map hw, T.check w false hl, g6 w, hje, Option.map_some, Option.getD_some, g4, g3, hst, hmod, MapKept.run_setObj_map _ hw, Sem.run_pure]
  rw [hrun]
  refine ⟨_, _, st.put i _, β, rfl, .of h4, put_good hok hin _, pair en.1 g5, ?_, .refl _⟩
  rw [put_lst hok hin]
  exact writeM hi hb hob (hent.set hjl hku g5)
theorem setB_spec {n : Nat} {x : V} : ∀ {es es' : Es} {mes : List MapEntry}, setB n x es = some es' → mes.length = es.length → (∀ (j : Nat) e, es[j]? = some e → ∃ me, mes[j]? = some me ∧ me.born = e.1) →
  ∃ (j : Nat) (e : Nat × V × V) (me : MapEntry), mes.findIdx? (fun e => (e.born : Int) == (Int.ofNat n)) = some j ∧ es[j]? = some e ∧ mes[j]? = some me ∧ e.1 = n ∧ es' = es.set j (n, e.2.1, x)
 | [], _, _, h, _, _ => by cases h
 | e :: es, es', [], _, hl, _ => by simp at hl
 | e :: es, es', me :: mes, h, hl, hb => by
  obtain ⟨b, k, v⟩ := e
  obtain ⟨me', h1, h2⟩ := hb 0 _ rfl
  simp at h1
  subst h1
  unfold setB at h
  split at h
  ·rename_i hbn
   cases h
   have := Nat.eq_of_beq_eq_true hbn
   subst this
   refine ⟨0, (b, k, v), me, ?_, rfl, rfl, rfl, rfl⟩
   rw [List.findIdx?_cons]
   simp [h2]
  ·rename_i hbn
   split at h
   ·rename_i r hr
    cases h
    obtain ⟨j, e, me', g1, g2, g3, g4, g5⟩ := setB_spec (mes := mes) hr (by simpa using hl) (fun j e hj => by
     obtain ⟨m, m1, m2⟩ := hb (j + 1) e (by simpa using hj)
     exact ⟨m, by simpa using m1, m2⟩)
    refine ⟨j + 1, e, me', ?_, by simpa using g2, by simpa using g3, g4, by rw [g5]; rfl⟩
    have hne := Nat.ne_of_beq_eq_false hbn
    rw [List.findIdx?_cons]
    have : ((me.born : Int) == Int.ofNat n) = false := by
     simp only [beq_eq_false_iff_ne, ne_eq]
     intro hh
     have h3 : me.born = n := Int.ofNat.inj hh
     exact hne (h2.symm.trans h3)
    rw [this, g1]
    rfl
   ·cases h
theorem ok_entryStore {t : TypeId} {m s v : Operand} : SemOk P gl CO (.entryStore t m s v) (sEntryStore (opG m) (opG s) (opG v)) := fun o ho call hc env st K outs hok h B w β tmps Q hi he => by
 obtain ⟨sv, hsv, h1⟩ := opG_den he h
 obtain ⟨kd, n, rfl, h2⟩ := vNat_some h1
 obtain ⟨x, hx, h3⟩ := opG_den he h2
 obtain ⟨mv, hmv, h4⟩ := opG_den he h3
 obtain ⟨i, es, c, b, mes, rfl, hb, hvm, hob, h5, hw, hent⟩ := onMap_some hok hi hmv h4
 have hin : i < st.n := by rw [← lst_len hok]; exact (List.getElem?_eq_some_iff.1 hob).1
 split at h5
 ·rename_i es' hs
  simp only [setE1_eq hin] at h5
  obtain ⟨j, e, me, g1, g2, g3, g4, g5⟩ := setB_spec (mes := mes) hs hent.1 (fun j e hj => by
   obtain ⟨me, m1, m2, _⟩ := hent.2 j e.1 e.2.1 e.2.2 hj
   exact ⟨me, m1, m2⟩)
  subst g5
  obtain ⟨me', q1, q2, q3, _⟩ := hent.2 j e.1 e.2.1 e.2.2 g2
  rw [g3] at q1; cases q1
  have hjl : j < es.length := (List.getElem?_eq_some_iff.1 g2).1
  have hv := hsv.int_inv
  have hrun : (execOp (⟨tmps.toArray, []⟩ : Act).eval o).run P w = .ok .skip { w with heap := w.heap.setIfInBounds b (.map (mes.set j ({ key := me.key, val := (⟨tmps.toArray, []⟩ : Act).eval v, born := n } : MapEntry)).toArray c) } := by
   have hmod : mes.toArray.modify j (fun e => { e with val := (⟨tmps.toArray, []⟩ : Act).eval v }) = (mes.set j ({ key := me.key, val := (⟨tmps.toArray, []⟩ : Act).eval v, born := n } : MapEntry)).toArray := by
    rw [modify_eq g3, q2, g4]
   have hfi : mes.toArray.findIdx? (fun e => (e.born : Int) == Int.ofNat n) = some j := by rw [List.findIdx?_toArray]; exact g1
   simp only [execOp, ho, Instr.entryStore, Sem.run_bind, Result.andThen_ok, hvm, MapKept.run_getObj_map hw, hv, asInt, asIntOf, Sem.run_pure, hfi, hmod, MapKept.run_setObj_map _ hw]
  unfold Oper.wp
  rw [hrun]
  refine ⟨_, .any, st.put i _, β, rfl, .of h5, put_good hok hin _, .any _, ?_, .refl _⟩
  rw [put_lst hok hin]
  exact writeM hi hb hob (hent.set hjl q3 hx)
 ·cases h5
theorem ok_range {t k e : TypeId} {m : Operand} (ht : tkT P t = some (.map k e)) : SemOk P gl CO (.range t m) (sRange (opG m)) := fun o ho call hc env st K outs hok h B w β tmps Q hi he => by
 obtain ⟨mv, hmv, h1⟩ := opG_den he h
 obtain ⟨i, es, c, b, mes, rfl, hb, hvm, hob, h2, hw, hent⟩ := onMap_some hok hi hmv h1
 obtain ⟨i', d, _, hu, htk⟩ := tkT_spec ht
 obtain ⟨a, e', rfl⟩ := tkOf_map_ htk
 have hrun : (execOp (⟨tmps.toArray, []⟩ : Act).eval o).run P w = .ok (.value (.pointer (some ⟨w.heap.size, 0, none⟩))) (w.alloc (.mapIter (some b) c #[] c)) := by
  simp only [execOp, ho, Instr.range, Sem.run_bind, run_underlying hu, hvm, MapKept.run_getObj_map hw, Sem.run_pure, Result.andThen_ok, run_newObj_alloc]
 unfold Oper.wp
 rw [hrun]
 have h3 : K (.ptr st.n 0) (st.add (.iter (some i) c [] c)) = some outs := h2
 have hlen := hi.len
 have hln := lst_len hok
 refine ⟨_, _, st.add (.iter (some i) c [] c), β ++ [w.heap.size], rfl, .of h3, add_good hok _, .ptr _ _ _ (by rw [← hln, ← hlen]; simp), ?_, Pre.snoc _ _⟩
 rw [add_lst]
 refine hi.alloc (.mapIter (some b) c #[] c) ⟨b, Pre.snoc _ _ _ _ hb, ?_⟩
 show (w.heap.push _)[w.heap.size]? = _
 simp
theorem keyV1_den {p : V} {u : Value} (hu : keyV1 p = some u) : Den β p u := by
 cases p <;> simp only [keyV1] at hu <;> first | (cases hu; done) | skip
 ·cases hu; exact .bool ..
 ·cases hu; exact .int ..
 ·cases hu; exact .str ..
theorem keyV1_one {p : V} {u : Value} (hu : keyV1 p = some u) : u.oneCell' = true := by
 cases p <;> simp only [keyV1] at hu <;> first | (cases hu; done) | (cases hu; rfl)
theorem keyV_den {p : V} {u : Value} (hu : keyV p = some u) : Den β p u := by
 unfold keyV at hu
 split at hu
 ·rename_i cs
  split at hu
  ·rename_i vs hvs
   cases hu
   obtain ⟨g1, g2⟩ := keyVs_get hvs
   refine .agg _ _ g1 (fun u hu => ?_) fun j c v hc hv => keyV1_den (g2 j c v hc hv)
   obtain ⟨j, hj⟩ := List.mem_iff_getElem?.1 hu
   have hlt : j < cs.length := by rw [g1]; exact (List.getElem?_eq_some_iff.1 hj).1
   exact keyV1_one (g2 j _ u (List.getElem?_eq_getElem hlt) hj)
  ·cases hu
 ·exact keyV1_den hu
theorem findB_spec {n : Nat} {k v : V} : ∀ {es : Es} {mes : List MapEntry}, findB n es = some (k, v) → EntR β es mes → ∃ me, mes.find? (fun e => e.born == n) = some me ∧ keyV k = some me.key ∧ Den β v me.val
 | [], _, h, _ => by cases h
 | e :: es, [], _, he => by have := he.1; simp at this
 | e :: es, me :: mes, h, he => by
  obtain ⟨b, k', v'⟩ := e
  obtain ⟨me', h1, h2, h3, h4⟩ := he.2 0 b k' v' rfl
  simp at h1
  subst h1
  unfold findB at h
  split at h
  ·rename_i hbn
   cases h
   have := Nat.eq_of_beq_eq_true hbn
   subst this
   exact ⟨me, by rw [List.find?_cons]; simp [h2], h3, h4⟩
  ·rename_i hbn
   have hne := Nat.ne_of_beq_eq_false hbn
   obtain ⟨m, m1, m2, m3⟩ := findB_spec (mes := mes) h ⟨by have := he.1; simpa using this, fun j bn k v hj => by
    obtain ⟨e', q1, q2⟩ := he.2 (j + 1) bn k v (by simpa using hj)
    exact ⟨e', by simpa using q1, q2⟩⟩
   refine ⟨m, ?_, m2, m3⟩
   rw [List.find?_cons]
   have : (me.born == n) = false := by rw [h2]; simpa using hne
   rw [this]; exact m1
def onIter (st : St) (v : V) (F : Nat → Nat → Nat → List Nat → Nat → Es → Nat → R) : R := match v with
 | .ptr r 0 => st.obj r fun ob => match ob with
  | .iter (some m) since seen last => st.obj m fun mb => match mb with
   | .kmap es c => F r m since seen last es c
   | _ => none
  | _ => none
 | _ => none
theorem iter_some {st : St} (hok : st.Ok) {B : Base} (hi : Inv gl B w β (lst st)) {v : V} {u : Value} (hd : Den β v u) {F : Nat → Nat → Nat → List Nat → Nat → Es → Nat → R} {outs : List Dl}
  (h : onIter st v F = some outs) :
  ∃ r m since seen last es c rb mb mes, v = .ptr r 0 ∧ u = .pointer (some ⟨rb, 0, none⟩) ∧ β[r]? = some rb ∧ (lst st)[r]? = some (.iter (some m) since seen last) ∧ w.heap[rb]? = some (.mapIter (some mb) since seen.toArray last) ∧ β[m]? = some mb ∧ w.heap[mb]? = some (.map mes.toArray c) ∧ EntR β es mes ∧ F r m since seen last es c = some outs := by
 cases v <;> first | (cases h; done) | skip
 rename_i r off
 cases off with
 | succ _ => cases h
 | zero =>
  obtain ⟨rb, hrb, rfl⟩ := hd.ptr_inv
  obtain ⟨ob, h1, h2⟩ := obj_some hok h
  cases ob <;> first | (cases h1; done) | skip
  rename_i mo since seen last
  cases mo with
  | none => cases h1
  | some m =>
   rcases h2 with h2 | h2
   ·cases h2
   obtain ⟨mb, g1, g2⟩ := hi.obj r rb _ hrb h2
   obtain ⟨ob, h3, h4⟩ := obj_some hok h1
   cases ob <;> first | (cases h3; done) | skip
   rename_i es c
   rcases h4 with h4 | h4
   ·cases h4
   obtain ⟨mes, q1, q2, q3⟩ := hi.obj m mb _ g1 h4
   exact ⟨r, m, since, seen, last, es, c, rb, mb, mes, rfl, rfl, hrb, h2, g2, g1, q1, ⟨q2, q3⟩, h3⟩
theorem ok_entry {it : Operand} : ValOk P gl CO (.entry it) (sEntry (opG it)) := fun o ho call hc env st K outs hok h B w β tmps hi he => by
 obtain ⟨v, hv, h1⟩ := opG_den he h
 obtain ⟨r, m, since, seen, last, es, c, rb, mb, mes, rfl, hu, hrb, hor, hwr, hmb, hwm, hent, h2⟩ := iter_some hok hi hv (F := fun _ _ _ seen last es c => match seen.getLast? with
  | some b => iff (Nat.beq c last) (match findB b es with
   | some e => K (.tup [e.1, e.2]) st
   | none => none) none
  | none => none) (outs := outs) (by
   unfold onIter
   cases v <;> first | exact h1 | skip
   rename_i r off
   cases off with
   | succ _ => exact h1
   | zero =>
    simp only [obj_eq hok] at h1 ⊢
    generalize ((lst st)[r]?).getD .dead = ob at h1 ⊢
    cases ob <;> first | exact h1 | skip
    rename_i mo since seen last
    cases mo with
    | none => exact h1
    | some m =>
     simp only [] at h1 ⊢
     generalize ((lst st)[m]?).getD .dead = ob2 at h1 ⊢
     cases ob2 <;> first | exact h1 | skip
     cases hg : seen.getLast? with
     | none => rw [hg] at h1; cases h1
     | some b => rw [hg] at h1; exact h1)
 split at h2
 ·rename_i b hb
  obtain ⟨hcl, h3⟩ := iff_some h2
  have hcl := Nat.eq_of_beq_eq_true hcl
  subst hcl
  split at h3
  ·rename_i e hf
   obtain ⟨me, g1, g2, g3⟩ := findB_spec (k := e.1) (v := e.2) hf hent
   refine ⟨_, .tuple #[me.key, me.val], ?_, DenL.tup (vs := [me.key, me.val]) (.cons (keyV_den g2) (.cons g3 .nil)), .of h3⟩
   have hgr : (getObj rb).run P w = .ok (.mapIter (some mb) since seen.toArray c) w := by simp [getObj, Sem.run, hwr]
   have hbk : seen.toArray.back? = some b := by simpa using hb
   have hfd : mes.toArray.find? (fun e => e.born == b) = some me := by simpa using g1
   simp only [execOp, ho, hu, Instr.entry, Sem.run_bind, hgr, Result.andThen_ok, hbk, MapKept.run_getObj_map hwm, bne_self_eq_false, Bool.false_eq_true, if_false, hfd, Sem.run_pure]
  ·cases h3
 ·cases h2
theorem choose_next {n : Nat} (h : 0 < n) (w : World) : ∃ (j : Nat) (w1 : World), j < n ∧ (w1 = w ∨ w1 = { w with drawn := w.drawn + 1 }) ∧ (choose (Question.mapNext n)).run P w = .ok j w1 := by
 by_cases hf : n ≤ 1
 ·exact ⟨0, w, h, .inl rfl, by simp [choose, Sem.run, Question.forced, hf]⟩
 ·exact ⟨_, { w with drawn := w.drawn + 1 }, Nat.mod_lt _ h, .inr rfl, by
   simp only [choose, Sem.run, Question.forced, decide_eq_true_eq, hf, if_false, Question.cut]
   rfl⟩
theorem EntR.back {es : Es} {mes : List MapEntry} (h : EntR β es mes) {j : Nat} {e : MapEntry} (hj : mes[j]? = some e) : ∃ x, es[j]? = some x ∧ x.1 = e.born ∧ keyV x.2.1 = some e.key ∧ Den β x.2.2 e.val := by
 have hlt : j < es.length := by rw [← h.1]; exact (List.getElem?_eq_some_iff.1 hj).1
 obtain ⟨e', g1, g0, g2, g3⟩ := h.2 j es[j].1 es[j].2.1 es[j].2.2 (List.getElem?_eq_getElem hlt)
 rw [hj] at g1; cases g1
 exact ⟨es[j], List.getElem?_eq_getElem hlt, g0.symm, g2, g3⟩
theorem leftE_mem {seen : List Nat} {es : Es} {x : Nat × V × V} : x ∈ leftE seen es ↔ x ∈ es ∧ x.1 ∉ seen := by
 unfold leftE
 rw [List.mem_filter]
 constructor
 ·rintro ⟨h1, h2⟩
  refine ⟨h1, fun hh => ?_⟩
  rw [(memN_iff _ _).2 hh] at h2; cases h2
 ·rintro ⟨h1, h2⟩
  refine ⟨h1, ?_⟩
  cases hm : memN x.1 seen with
  | false => rfl
  | true => exact absurd ((memN_iff _ _).1 hm) h2
theorem ok_next {it : Operand} : SemOk P gl CO (.next it false) (sNext (opG it)) := fun o ho call hc env st K outs hok h B w β tmps Q hi he => by
 obtain ⟨v, hv, h1⟩ := opG_den he h
 obtain ⟨r, m, since, seen, last, es, c, rb, mb, mes, rfl, hu, hrb, hor, hwr, hmb, hwm, hent, h2⟩ := iter_some hok hi hv (F := fun r m since seen last es c => iff (!seen.isEmpty && (!es.isEmpty && es.all fun e => Nat.ble last e.1)) none
     (mapK fE (leftE seen es) fun left => match (if left.any fun e => Nat.blt e.1 since then some [] else K (.tup [.bool false]) st) with
      | some a => match many left fun e => appK seen [e.1] fun seen => st.set r (.iter (some m) since seen c) fun s => K (.tup [.bool true, e.2.1, e.2.2]) s with
       | some b => some (a ++ b)
       | none => none
      | none => none)) (outs := outs) (by cases v <;> exact h1)
 have hT : (!seen.isEmpty && (!es.isEmpty && es.all fun e => Nat.ble last e.1)) = false := by
  cases hb : (!seen.isEmpty && (!es.isEmpty && es.all fun e => Nat.ble last e.1)) with
  | false => rfl
  | true => rw [hb] at h2; cases h2
 rw [hT] at h2
 have h3 : (mapK fE (leftE seen es) fun left => match (if left.any fun e => Nat.blt e.1 since then some [] else K (.tup [.bool false]) st) with
      | some a => match many left fun e => appK seen [e.1] fun seen => st.set r (.iter (some m) since seen c) fun s => K (.tup [.bool true, e.2.1, e.2.2]) s with
       | some b => some (a ++ b)
       | none => none
      | none => none) = some outs := h2
 rw [mapK_eq (fun e => e) (fun x k => fE_eq x k), List.map_id'] at h3
 have hrn : r < st.n := by rw [← lst_len hok]; exact (List.getElem?_eq_some_iff.1 hor).1
 split at h3
 case h_2 => cases h3
 rename_i a ha
 split at h3
 case h_2 => cases h3
 rename_i bo hbo
 cases h3
 let L : List MapEntry := mes.filter fun e => !seen.contains e.born
 have hL : mes.toArray.filter (fun e => !seen.toArray.contains e.born) = L.toArray := by simp [L]
 have memL : ∀ e ∈ L, ∃ x ∈ leftE seen es, x.1 = e.born ∧ keyV x.2.1 = some e.key ∧ Den β x.2.2 e.val := fun e hm => by
  obtain ⟨hm1, hm2⟩ := List.mem_filter.1 hm
  obtain ⟨j, hj⟩ := List.mem_iff_getElem?.1 hm1
  obtain ⟨x, g1, g2, g3, g4⟩ := hent.back hj
  exact ⟨x, leftE_mem.2 ⟨List.mem_of_getElem? g1, by rw [g2]; simpa using hm2⟩, g2, g3, g4⟩
 have memE : ∀ x ∈ leftE seen es, ∃ e ∈ L, e.born = x.1 := fun x hx => by
  obtain ⟨h1, h2⟩ := leftE_mem.1 hx
  obtain ⟨j, hj⟩ := List.mem_iff_getElem?.1 h1
  obtain ⟨e, g1, g2, _⟩ := hent.2 j x.1 x.2.1 x.2.2 hj
  exact ⟨e, List.mem_filter.2 ⟨List.mem_of_getElem? g1, by rw [g2]; simpa using h2⟩, g2⟩
 have htest : (!seen.toArray.isEmpty && !mes.toArray.isEmpty && mes.toArray.all (fun e => decide (e.born ≥ last))) = false := by
  cases hb : (!seen.toArray.isEmpty && !mes.toArray.isEmpty && mes.toArray.all (fun e => decide (e.born ≥ last))) with
  | false => rfl
  | true =>
   exfalso
   simp only [Bool.and_eq_true, Bool.not_eq_true', List.isEmpty_toArray, List.all_toArray, List.all_eq_true, decide_eq_true_eq] at hb
   obtain ⟨⟨b1, b2⟩, b3⟩ := hb
   have c2 : es.isEmpty = false := by
    cases es with
    | nil => have := hent.1; simp at this; subst this; simp at b2
    | cons _ _ => rfl
   have c3 : (es.all fun e => Nat.ble last e.1) = true := List.all_eq_true.2 fun x hx => by
    obtain ⟨j, hj⟩ := List.mem_iff_getElem?.1 hx
    obtain ⟨e, g1, g2, _⟩ := hent.2 j x.1 x.2.1 x.2.2 hj
    have := b3 e (List.mem_of_getElem? g1)
    exact Nat.ble_eq_true_of_le (by omega)
   rw [b1, c2, c3] at hT
   cases hT
 have hgr : (getObj rb).run P w = .ok (.mapIter (some mb) since seen.toArray last) w := by simp [getObj, Sem.run, hwr]
 generalize hC : ((if (L.toArray.filter (fun x => decide (x.born < since))).isEmpty then #[none] else #[]) ++ (L.toArray.filter (fun x => decide (x.born < since)) ++ L.toArray.filter (fun x => decide (x.born ≥ since))).map some : Array (Option MapEntry)) = C
 have cN : ∀ (j : Nat), C[j]? = some none → ∀ e ∈ L, ¬ e.born < since := fun j hj e he hlt => by
  have hm := Array.mem_of_getElem? hj
  rw [← hC, Array.mem_append] at hm
  have hne : (L.toArray.filter (fun x => decide (x.born < since))).isEmpty = false := by
   rw [Bool.eq_false_iff]
   intro hh
   rw [Array.isEmpty_iff, Array.filter_eq_empty_iff] at hh
   have := hh e (by simpa using he)
   simp [hlt] at this
  rw [hne] at hm
  rcases hm with hm | hm
  ·simp at hm
  ·simp at hm
 have cS : ∀ (j : Nat) e, C[j]? = some (some e) → e ∈ L := fun j e hj => by
  have hm := Array.mem_of_getElem? hj
  rw [← hC, Array.mem_append] at hm
  rcases hm with hm | hm
  ·split at hm <;> simp at hm
  ·simp only [Array.mem_map, Array.mem_append, Array.mem_filter, Option.some.injEq, exists_eq_right] at hm
   rcases hm with hm | hm
   ·simpa using hm.1
   ·simpa using hm.1
 have cP : 0 < C.size := by
  rw [← hC, Array.size_append]
  split
  ·have h1 : (#[none] : Array (Option MapEntry)).size = 1 := rfl
   rw [h1]; omega
  ·rename_i hne
   have : 0 < (L.toArray.filter (fun x => decide (x.born < since))).size := by
    rcases Nat.eq_zero_or_pos (L.toArray.filter (fun x => decide (x.born < since))).size with h | h
    ·exact absurd (by simpa [Array.isEmpty] using h) hne
    ·exact h
   rw [Array.size_map, Array.size_append]; omega
 obtain ⟨j, w1, hj, hw1, hch⟩ := choose_next (P := P) cP w
 have hi1 : Inv gl B w1 β (lst st) := by
  rcases hw1 with rfl | rfl
  ·exact hi
  ·exact hi.drew
 have hr1 : w1.heap[rb]? = some (.mapIter (some mb) since seen.toArray last) := by rcases hw1 with rfl | rfl <;> exact hwr
 unfold Oper.wp
 cases hcj : C[j]? with
 | none => rw [Array.getElem?_eq_getElem hj] at hcj; cases hcj
 | some oe =>
  cases oe with
  | none =>
   have hrun : (execOp (⟨tmps.toArray, []⟩ : Act).eval o).run P w = .ok (.value (.tuple #[.bool false])) w1 := by
    simp only [execOp, ho, hu, Instr.next, Sem.run_bind, hgr, Result.andThen_ok, MapKept.run_getObj_map hwm, htest, Bool.false_eq_true, if_false, hL, hC, hch, hcj, Sem.run_pure]
   rw [hrun]
   have hany : ((leftE seen es).any fun e => Nat.blt e.1 since) = false := by
    rw [Bool.eq_false_iff]
    intro hh
    obtain ⟨x, hx, hb⟩ := List.any_eq_true.1 hh
    obtain ⟨e, he, hb2⟩ := memE x hx
    exact cN j hcj e he (by rw [hb2]; exact blt_iff.1 hb)
   rw [hany] at ha
   exact ⟨_, .tup [.bool false], st, β, rfl, ⟨a, ha, fun d hd => List.mem_append_left _ hd⟩, .refl hok, DenL.tup (vs := [.bool false]) (.cons (.bool _) .nil), hi1, .refl _⟩
  | some e =>
   obtain ⟨x, hx, x1, x2, x3⟩ := memL e (cS j e hcj)
   have hset : (setObj rb (.mapIter (some mb) since (seen.toArray.push e.born) c)).run P w1 = .ok () { w1 with heap := w1.heap.setIfInBounds rb (.mapIter (some mb) since (seen.toArray.push e.born) c) } := by simp [setObj, Sem.run, hr1]
   have hrun : (execOp (⟨tmps.toArray, []⟩ : Act).eval o).run P w = .ok (.value (.tuple #[.bool true, e.key, e.val])) { w1 with heap := w1.heap.setIfInBounds rb (.mapIter (some mb) since (seen.toArray.push e.born) c) } := by
    simp only [execOp, ho, hu, Instr.next, Sem.run_bind, hgr, Result.andThen_ok, MapKept.run_getObj_map hwm, htest, Bool.false_eq_true, if_false, hL, hC, hch, hcj, hset, Sem.run_pure]
   rw [hrun]
   obtain ⟨o2, m1, m2⟩ := many_spec hbo x hx
   rw [appK_eq, set_eq hrn] at m1
   have hlt : rb < w1.heap.size := (Array.getElem?_eq_some_iff.1 hr1).1
   refine ⟨_, .tup [.bool true, x.2.1, x.2.2], st.put r _, β, rfl, ⟨o2, m1, fun d hd => List.mem_append_right _ (m2 d hd)⟩, put_good hok hrn _, DenL.tup (vs := [.bool true, e.key, e.val]) (.cons (.bool _) (.cons (keyV_den x2) (.cons x3 .nil))), ?_, .refl _⟩
   rw [put_lst hok hrn]
   refine hi1.write (w' := { w1 with heap := w1.heap.setIfInBounds rb (.mapIter (some mb) since (seen.toArray.push e.born) c) }) hrb hor rfl (by simp) rfl rfl rfl (fun k hk => ?_) ⟨mb, hmb, ?_⟩
   ·show (w1.heap.setIfInBounds rb _)[k]? = _
    rw [Array.getElem?_setIfInBounds_ne (by omega)]
   ·show (w1.heap.setIfInBounds rb _)[rb]? = _
    rw [Array.getElem?_setIfInBounds_self_of_lt hlt, x1]
    simp
end
end
end Go.Ev
namespace Go.Ev
open Go
noncomputable section
section
variable {P : Program} {gl : List (Nat × List V)} {CO : Call → Prop}
theorem maps_ok {op : Op} {s : Sm} (hm : mapOp op = true) (h : compOp P gl op = some s) : SemOk P gl CO op s := by
 cases op <;> first | (cases hm; done) | skip
 case makeMap t r =>
  simp only [compOp] at h
  split at h
  ·cases h; exact ok_mkmap
  ·cases h
 case lookup t m x ok =>
  simp only [compOp] at h
  split at h
  ·rename_i k hk
   split at h
   ·rename_i k' e ht
    rcases zcell_eq (P := P) (e := e) (fun z => match z with
     | some z => fBool ok fun ok => withO m fun m => withO x fun k' => some (sLookup P k z m k' ok)
     | none => none) with ⟨zv, h1, h2, h3⟩ | h3
    ·replace h := h3.symm.trans h
     simp only [fBool_eq, withO_eq] at h
     cases h
     exact (ok_lookup hk ht h1 h2).sem
    ·replace h := h3.symm.trans h
     cases h
   ·cases h
  ·cases h
 case mapUpdate t m x v =>
  simp only [compOp] at h
  split at h
  ·rename_i k hk
   simp only [withO_eq] at h
   cases h
   exact ok_mapUpd (.inl rfl) hk
  ·cases h
 case insert t m x v =>
  simp only [compOp] at h
  split at h
  ·rename_i k hk
   simp only [withO_eq] at h
   cases h
   exact ok_mapUpd (.inr rfl) hk
  ·cases h
 case mapEntry t m x =>
  simp only [compOp] at h
  split at h
  ·rename_i k hk
   split at h
   ·rename_i k' e ht
    rcases zcell_eq (P := P) (e := e) (fun z => match z with
     | some z => withO m fun m => withO x fun k' => some (sMapEntry P k z m k')
     | none => none) with ⟨zv, h1, h2, h3⟩ | h3
    ·replace h := h3.symm.trans h
     simp only [withO_eq] at h
     cases h
     exact ok_mapEntry hk ht h1 h2
    ·replace h := h3.symm.trans h
     cases h
   ·cases h
  ·cases h
 case entryStore t m s' v =>
  simp only [compOp, withO_eq] at h
  cases h
  exact ok_entryStore
 case range t m =>
  simp only [compOp] at h
  split at h
  ·rename_i ht
   simp only [withO_eq] at h
   cases h
   exact ok_range ht
  ·cases h
 case next it isStr =>
  simp only [compOp] at h
  split at h
  ·cases h
  ·simp only [withO_eq] at h
   cases h
   exact ok_next
 case entry it =>
  simp only [compOp, withO_eq] at h
  cases h
  exact ok_entry.sem
theorem ops_sound : OpsOk P gl (CallOk P gl) := fun _ _ h => (opR_of (fun _ _ h1 h2 => maps_ok h1 h2) h).sem'
theorem pure_sound : PureOk P gl (CallOk P gl) := fun _ _ hp h => (opR_of (fun _ _ h1 h2 => maps_ok h1 h2) h).pure' hp
theorem reckon_ok (hm : P.follows .mixedOrders = true) (hent : ∀ (f : FuncId) (fn : Func), P.funcs[f]? = some fn → fn.body.isNone = false → (fn.name == "runtime.NumGoroutine") = false)
  {n : Nat} {rk : Nat → Nat} {ext : FuncId → List V → List O → Option R} (hext : ∀ f args os outs, ext f args os = some (some outs) → FunOk P gl f args os outs) {d : Nat} {f : FuncId} {args : List V} {os : List O} {outs : List Dl}
  (h : callC P gl n rk ext d f args os = some outs) : FunOk P gl f args os outs := callC_ok hm hent ops_sound pure_sound hext d f args os outs h
end
end
end Go.Ev
