/-
 What the laws' cards ask of the program and of its variables, once for all laws.
 The table of powers, out of a row's condition.
-/
import Derived.Test.YtkaobkjcjodffaaGreatDoorCards
import Derived.Test.YtkaobkjcjodffaaGreatDoorTie
import Derived.Lay
import Derived.LaidOnce
import Derived.Shelf.Vars
import Derived.SevenTiedAt
import Derived.Lib.LaidTab
import Derived.Test.YtkaobkjcjodffaaGreatDoorTB6
import Derived.Test.YtkaobkjcjodffaaGreatDoorTLib
import Derived.Test.YtkaobkjcjodffaaGreatDoorTG2
import Derived.Test.YtkaobkjcjodffaaGreatDoorSPwFork
namespace Go.Proofs.YtkaobkjcjodffaaGreatDoor
open Go Go.Pw
section
open Go.RowKit Go.WideShapes Go.ChangeShapes Go.ChangeAt
theorem ownK : ownKnob Tryz.prog.godebug = none := by kernel_rfl
theorem laidOut : laidOutB Tryz.prog = true := by kernel_rfl
theorem maxLen_cell {W : World} (h : W.ShapedOpen Tryz.prog) : ∃ m, W.cell? ⟨2, 0, none⟩ = some (.int .i64 m) :=
 cell_of_shapedOpen_int (t := 3) (zero := #[.int .i64 0]) h (of_decide_eq_true (by kernel_rfl)) (by kernel_rfl) rfl (by kernel_rfl) (by kernel_rfl) Tryz.underlying3
theorem gm_of {W : World} (h : W.ShapedOpen Tryz.prog) : 3 ≤ W.heap.size ∧ GM ⟨3, fun b => W.heap[b]?⟩ := by
 obtain ⟨m, hm⟩ := maxLen_cell h
 refine ⟨?_, fun w hw => ⟨m, ?_⟩⟩
 ·unfold World.cell? at hm
  split at hm
  ·rename_i hh
   exact (Array.getElem?_eq_some_iff.1 hh).1
  ·cases hm
 ·rw [cell_same (w := W) (hw 2 (show 2 < 3 by decide)) 0]
  exact hm
theorem laid_tail {P : Program} {x : String × DataW Unit} {r : List (String × DataW Unit)} {w : World} (h : laidMet P (x :: r) w) : laidMet P r w := by
 obtain ⟨ps, hv, hnd, hrows⟩ := h
 obtain ⟨n, d⟩ := x
 obtain ⟨g, t, cs, fuel, p, q, _, _, _, _, hq, rfl⟩ := hv
 exact ⟨q, hq, List.Nodup.sublist (List.sublist_append_right _ _) hnd, fun b off hm => hrows b off (List.mem_append_right _ hm)⟩
theorem cells_of_strs {H : Type} {enc : TypeId × Value → H} {P : Program} {w : World} {base : Nat} {sp : Nat → Bool} {held : Bool} {fuel : Nat} {t e : TypeId} {n : Nat} {cs : List Value} {zs : List Str} {p : List MemPlace}
  (ht : P.underlying t = some (.array n e)) (he : P.underlying e = some .string) (hce : P.cellsOf e = 1) (hct : P.cellsOf t = n)
  (h : DataW.trod enc P w base sp held fuel t cs = some (.agg (zs.map fun z => .lit (.string z)), p)) : cs = zs.map fun z => Value.string ⟨z.toArray⟩ := by
 cases fuel with
 | zero => simp [DataW.trod] at h
 | succ fuel =>
  simp only [DataW.trod, ht, hce, hct, Nat.mul_one] at h
  split at h
  ·rename_i hl
   obtain ⟨xs, hm, hx⟩ := Option.map_eq_some_iff.1 h
   have hxs : xs.map (·.1) = zs.map fun z => (DataW.lit (.string z) : DataW H) := by
    have := congrArg Prod.fst hx
    simpa using this
   have hxl : xs.length = n := by simpa using Lib.mapM_length hm
   have hzl : zs.length = n := by
    have := congrArg List.length hxs
    simp at this
    omega
   apply List.ext_getElem?
   intro i
   by_cases hi : i < n
   ·obtain ⟨b, hb, hf⟩ := Lib.mapM_at hm i i (by simp [hi])
    obtain ⟨z, hc, rfl, _⟩ := DataW.trod_string he hf
    have h1 : cs[i]? = some (.string z) := by
     have := congrArg (·[0]?) hc
     simpa [List.getElem?_take, List.getElem?_drop] using this
    have h2 : (xs.map (·.1))[i]? = some (DataW.lit (.string z.data.toList) : DataW H) := by simp [hb]
    rw [hxs] at h2
    simp only [List.getElem?_map, Option.map_eq_some_iff, DataW.lit.injEq, Lit.string.injEq] at h2
    obtain ⟨z', hz', e'⟩ := h2
    rw [h1, List.getElem?_map, hz', e']
    rfl
   ·rw [List.getElem?_eq_none (by omega), List.getElem?_eq_none (by simp; omega)]
  ·cases h
theorem days_at : Tryz.prog.globalNamed "netsegment/calendar.names" = some 0 := by kernel_rfl
theorem gd_of {rest : List (String × DataW Unit)} {W : World} (h : laidMet Tryz.prog (("netsegment/calendar.names", Rows.laid_netsegment_calendar_names) :: rest) W) : GD ⟨3, fun b => W.heap[b]?⟩ := by
 obtain ⟨ps, ⟨g', t', cs, fuel, p, q, hg', ht', hvar, hd, _, _⟩, _⟩ := h
 obtain rfl := Option.some.inj (days_at.symm.trans hg')
 have hty : (Tryz.prog.globals[0]?).map (·.type) = some t' := ht'
 have e0 : cs.toList = dayNames.map fun z => Value.string ⟨z.toArray⟩ := by
  obtain rfl : 203 = t' := Option.some.inj ((show (Tryz.prog.globals[0]?).map (·.type) = some 203 by kernel_rfl).symm.trans hty)
  exact cells_of_strs (t := 203) (e := 9) (n := 7) (by kernel_rfl) (by kernel_rfl) (by kernel_rfl) (by kernel_rfl) (zs := dayNames) hd
 refine ⟨show 0 < 3 by decide, by decide, fun w hw j x hx => ?_⟩
 rw [cell_same (w := W) (hw 0 (show 0 < 3 by decide)) j, World.var?_cell days_at hvar j, ← Array.getElem?_toList, e0]
 rw [List.getElem?_map] at hx ⊢
 cases hz : dayNames[j]? with
 | none => rw [hz] at hx; cases hx
 | some z => rw [hz] at hx; cases hx; rfl
end
section
open Go.RowKit
theorem tab_at : Tryz.prog.globalNamed "internal/strconv.uint64pow10" = some 1 := by kernel_rfl
theorem tab_is {rest : List (String × DataW Unit)} {W : World} (h : laidMet Tryz.prog (("internal/strconv.uint64pow10", Rows.laid_internal_strconv_uint64pow10) :: rest) W) : Lib.TabIs Tryz.prog W "internal/strconv.uint64pow10" .u64 Lib.pow10Tab :=
 Lib.tabIs_of_head (k := .u64) (zs := Lib.pow10Tab) (t := 248) (e := 138) (n := 20) tab_at (by kernel_rfl) (by kernel_rfl) (by kernel_rfl) (by kernel_rfl) (by kernel_rfl) h
theorem gt_of {W : World} (h : Lib.TabIs Tryz.prog W "internal/strconv.uint64pow10" .u64 Lib.pow10Tab) : GT ⟨3, fun b => W.heap[b]?⟩ := by
 intro w hw
 have e : w.heap[1]? = W.heap[1]? := hw 1 (show 1 < 3 by decide)
 unfold Lib.TabIs World.var? at h ⊢
 rw [tab_at] at h ⊢
 simp only [Option.bind_some, e] at h ⊢
 exact h

end
end Go.Proofs.YtkaobkjcjodffaaGreatDoor