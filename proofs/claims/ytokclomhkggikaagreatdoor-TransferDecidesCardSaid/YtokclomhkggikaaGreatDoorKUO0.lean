/-
 Generators: the configurations of open ports.
-/
import Derived.Test.YtokclomhkggikaaGreatDoorKUG5
import Derived.Test.YtokclomhkggikaaGreatDoorKB11
import Derived.Test.YtokclomhkggikaaGreatDoorJPwApX
import Derived.Test.YtokclomhkggikaaGreatDoorJPwShort
import Derived.Test.YtokclomhkggikaaGreatDoorKU7
set_option maxHeartbeats 20000000
set_option maxRecDepth 100000
namespace Go.Proofs.YtokclomhkggikaaGreatDoor
open Go Go.Pw
variable {Gl : Glob}
section
open Go.Pw
variable {P : Program} {Gl : Glob} {B : Base} {env : List PV} {st : List PObj} {Q : Post} {A : Nat → Prop} {w : World} {β : List Nat}
theorem boxRow {i : Nat} {cs xs : List PV} (hi : Inv Gl B A w β st) (hst : st[i]? = some (.box cs)) (hx : xs.map PV.cells = cs.map fun c => [c]) (hg : cs.all (PV.refs (fun _ => false) 5) = true) (hm : cs.length ≤ maxLen) : Inv Gl B A w β (st.set i (.arr 1 xs xs.length)) := by
 have hil : i < st.length := (List.getElem?_eq_some_iff.1 hst).1
 have hlen := hi.len
 have hb : β[i]? = some (β[i]'(by omega)) := List.getElem?_eq_getElem (by omega)
 obtain ⟨vs, T, fr, g1, g2, g3, g4⟩ := hi.obj i _ _ hb hst
 have hl : xs.length = cs.length := by simpa using congrArg List.length hx
 have hcell : ∀ (k : Nat) x, xs[k]? = some x → ∃ c, cs[k]? = some c ∧ x.cells = [c] := fun k x hk => by
  have := congrArg (·[k]?) hx
  simp only [List.getElem?_map, hk, Option.map_some] at this
  cases hc : cs[k]? with
  | none => rw [hc] at this; cases this
  | some c => rw [hc] at this; exact ⟨c, rfl, Option.some.inj this⟩
 refine (hi.write (x := .arr 1 xs xs.length) hb hst rfl rfl rfl rfl rfl (fun _ _ => rfl) ⟨Nat.le_refl _, by omega, fun x hxm => ?_, fun _ => ⟨vs, T, fr, g1, by omega, fun j hj => g3 j (by omega), fun k x j c hxk hc => ?_⟩⟩).1
 ·obtain ⟨k, hk⟩ := List.mem_iff_getElem?.1 hxm
  obtain ⟨c, _, h2⟩ := hcell k x hk
  rw [h2]; rfl
 ·obtain ⟨c', h1, h2⟩ := hcell k x hxk
  rw [h2] at hc
  have hj0 : j = 0 := by
   have := (List.getElem?_eq_some_iff.1 hc).1
   simp at this
   omega
  subst hj0
  have hc' : c' = c := by simpa using hc
  subst hc'
  have hk : k < vs.length := by rw [g2]; exact (List.getElem?_eq_some_iff.1 h1).1
  refine ⟨vs[k], by rw [Nat.mul_one, Nat.add_zero]; exact List.getElem?_eq_getElem hk, ?_⟩
  exact (g4 k c' _ h1 (List.getElem?_eq_getElem hk)).ground (List.all_eq_true.1 hg c' (List.mem_of_getElem? h1))
theorem pw_boxRow (i : Nat) (xs : List PV) {c : Code} {cs : List PV} (hst : st[i]? = some (.box cs)) (hx : xs.map PV.cells = cs.map fun c => [c]) (hg : cs.all (PV.refs (fun _ => false) 5) = true) (hm : cs.length ≤ maxLen) (h : PW P Gl B c env (st.set i (.arr 1 xs xs.length)) Q) : PW P Gl B c env st Q :=
 fun A w β tmps hi he => h A w β tmps (boxRow hi hst hx hg hm) he
end
attribute [local irreducible] PW PWL OpP PCalls PWO bokB hinB bhas tEdges PWT bothT
instance iEdges (a : List TDev) (b : List TLink) (c : List TEdge) (d : List TPfx) (n v : Int) : ConF Tryz.prog Gl 55 [.agg [.sl (a.map eDev), .sl (b.map eLink), .sl (c.map eEdge), .sl (d.map ePfx), .int .i64 n], .int .i64 v] (Small c) (.sl ((tEdges ⟨a, b, c, d, n⟩ v).map eInt)) := ⟨e55, fun h => c70 ⟨a, b, c, d, n⟩ v h⟩
def subC : List Nat → Code → Code
 | [], c => c
 | 0 :: p, .seq x _ => subC p x
 | _ :: p, .seq _ y => subC p y
 | _ :: p, .block _ x => subC p x
 | _ :: p, .loop x => subC p x
 | 0 :: p, .cond _ x _ => subC p x
 | _ :: p, .cond _ _ y => subC p y
 | _ :: _, c => c
def oEnv (n d : Nat) (E : List Int) : List PV := [.ptr 0 0, .any, .any, .ptr 1 0, .any, .msl 1 2 0 n n, .int .i64 d, .sl (E.map eInt), .int .i64 0] ++ List.replicate 88 .any
def oEnd (n d : Nat) : List PV := [.ptr 0 0, .any, .any, .ptr 1 0, .any, .msl 1 2 0 n n, .int .i64 d] ++ List.replicate 90 .any
theorem tEdges_len (t : Topo) (d : Int) : (tEdges t d).length ≤ t.edges.length := by
 have := selTo_len (fun e : TEdge => e.dev == d) t.edges t.edges.length
 unfold tEdges idxs
 omega
theorem tab_full : TabIn 4 [⟨fullB, true⟩] := ⟨by decide, fun r hr => by rw [List.mem_singleton.1 hr]; exact box_full_in⟩
def gPort (e : Int) (A C : List TRule) (M : List TMove) (H : List THide) (S : List TSteer) : List PV := [.int .i64 e, .sl (A.map eRule), .sl (C.map eRule), .sl (M.map eMove), .sl (H.map eHide), .sl (S.map eSteer)]
end Go.Proofs.YtokclomhkggikaaGreatDoor
