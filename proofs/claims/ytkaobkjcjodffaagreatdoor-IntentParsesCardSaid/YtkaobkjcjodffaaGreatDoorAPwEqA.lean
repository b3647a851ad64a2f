/-
 '==' of arrays of bools that are values.
-/
import Derived.ChangeKeysEq
import Derived.Test.YtkaobkjcjodffaaGreatDoorAPwEq
namespace Go.Pw
open Go
section
variable {P : Program} {Gl : Glob} {B : Base} {tys : List TI} {env : List PV} {o : Oper} {A : Nat → Prop} {w : World} {β : List Nat}
theorem eqItems_bool {e : TypeId} (hu : P.underlying e = some .bool) (he : P.plainKey e = true) (hc : P.cellsOf e = 1) (d : Nat) (ga gb : List Bool) (xs ys : List Value) : ∀ (is : List Nat), (∀ i ∈ is, xs[i]? = some (.bool (ga.getD i false)) ∧ ys[i]? = some (.bool (gb.getD i false))) →
  (Op.eqItems (d + 1) e (P.cellsOf e) xs.toArray ys.toArray is).run P w = .ok (is.all fun i => ga.getD i false == gb.getD i false) w
 | [], _ => by simp [Op.eqItems]
 | i :: is, h => by
  obtain ⟨h1, h2⟩ := h i (List.mem_cons_self ..)
  have ih := eqItems_bool hu he hc d ga gb xs ys is (fun j hj => h j (List.mem_cons_of_mem _ hj))
  have p1 : (part e xs.toArray (i * P.cellsOf e)).run P w = .ok (.bool (ga.getD i false)) w := run_part_plain w he (by rw [hc, Nat.mul_one, List.getElem?_toArray]; exact h1)
  have p2 : (part e ys.toArray (i * P.cellsOf e)).run P w = .ok (.bool (gb.getD i false)) w := run_part_plain w he (by rw [hc, Nat.mul_one, List.getElem?_toArray]; exact h2)
  have p3 := run_equalIn_bool' (P := P) w d e (ga.getD i false) (gb.getD i false) hu
  simp only [Op.eqItems, Sem.run_bind, p1, p2, p3, Result.andThen_ok, List.all_cons]
  cases hq : (ga.getD i false == gb.getD i false)
  ·simp
  ·simpa using ih
theorem v_neA {t t' e : TypeId} {x y : Operand} {n : Nat} {ga gb : List Bool} (ho : o.op = .binOp .neq t x y t') (hx : pe env x = .agg (ga.map .bool)) (hy : pe env y = .agg (gb.map .bool)) (hu : P.underlying t = some (.array n e)) (hi : (P.info? e).isSome = true)
  (hue : P.underlying e = some .bool) (he : P.plainKey e = true) (hc : P.cellsOf e = 1) (hg : P.eqGuardType P.depth t = false) (hla : ga.length = n) (hlb : gb.length = n) : OpV P Gl B o env (.bool !((List.range n).all fun i => ga.getD i false == gb.getD i false)) := by
 obtain ⟨i, hi⟩ := Option.isSome_iff_exists.1 hi
 intro st A w β tmps _ hE
 have hdx := hE.eval [] x
 have hdy := hE.eval [] y
 rw [hx] at hdx
 rw [hy] at hdy
 obtain ⟨vs, hv1, hl1, hd1⟩ := hdx.agg_inv
 obtain ⟨us, hv2, hl2, hd2⟩ := hdy.agg_inv
 have at' : ∀ (ga : List Bool) (vs : List Value), (ga.map PV.bool).length = vs.length → (∀ (j : Nat) c v, (ga.map PV.bool)[j]? = some c → vs[j]? = some v → Den A w β c v) → ∀ i, i < ga.length → vs[i]? = some (.bool (ga.getD i false)) := by
  intro ga vs hl hd i hi
  rw [List.length_map] at hl
  have h1 : (ga.map PV.bool)[i]? = some (.bool (ga.getD i false)) := by rw [List.getElem?_map, List.getD, List.getElem?_eq_getElem hi]; rfl
  have h2 : vs[i]? = some (vs[i]'(by omega)) := List.getElem?_eq_getElem (by omega)
  have := hd i _ _ h1 h2
  rw [h2, this.bool_inv]
 have hs : (Op.equalIn (9998 + 1 + 1) t (.agg vs.toArray) (.agg us.toArray)).run P w = .ok ((List.range n).all fun i => ga.getD i false == gb.getD i false) w := by
  rw [run_equalIn_array w (9998 + 1) _ _ hu hi]
  exact eqItems_bool hue he hc 9998 ga gb vs us (List.range n) fun i hi => ⟨at' ga vs hl1 hd1 i (by rw [hla]; exact List.mem_range.1 hi), at' gb us hl2 hd2 i (by rw [hlb]; exact List.mem_range.1 hi)⟩
 refine ⟨.bool !((List.range n).all fun i => ga.getD i false == gb.getD i false), ?_, .bool ..⟩
 simp only [execOp, ho, Sem.run_bind, hv1, hv2, run_eqGuard_agg w .neq t x y vs.toArray us.toArray hg, Result.andThen_ok, run_neq_struct]
 rw [show (10000 : Nat) = 9998 + 1 + 1 from rfl, hs]
 rfl
end
end Go.Pw
