/-
 What the arguments of the laws on intents read as.
 What the laws' cards ask of the program and of its variables, once for all laws.
-/
import Derived.Test.YtkaobkjcjodffaaGreatDoorAPwRead
import Derived.Test.YtkaobkjcjodffaaGreatDoorBB6
import Derived.Test.YtkaobkjcjodffaaGreatDoorCards
import Derived.Test.YtkaobkjcjodffaaGreatDoorTie
import Derived.Lay
import Derived.LaidOnce
import Derived.Shelf.Vars
import Derived.SevenTiedAt
import Derived.Lib.LaidTab
import Derived.Test.YtkaobkjcjodffaaGreatDoorBLib
import Derived.Test.YtkaobkjcjodffaaGreatDoorBE3
namespace Go.Proofs.YtkaobkjcjodffaaGreatDoor
open Go Go.Pw
section
theorem wt_int {n : Nat} {t : TypeId} {ps : List PV} {k : IntKind} {a b : Nat} {z : Option (List PV)} (ht : tys[t]? = some ⟨.int k, a, b, z⟩) (h : WT tys (n + 1) t ps) : ∃ m, ps = [.int k m] ∧ k.min ≤ m ∧ m ≤ k.max := by
 unfold WT at h
 rw [ht] at h
 obtain ⟨m, hm, hw⟩ := h
 refine ⟨m, hm, ?_⟩
 simpa [Lit.wf] using hw
theorem wt_str {n : Nat} {t : TypeId} {ps : List PV} {a b : Nat} {z : Option (List PV)} (ht : tys[t]? = some ⟨.str, a, b, z⟩) (h : WT tys (n + 1) t ps) : ∃ m, ps = [.str m] := by
 unfold WT at h
 rw [ht] at h
 obtain ⟨m, hm, _⟩ := h
 exact ⟨m, hm⟩
theorem map_of {α : Type} {Q : α → Prop} {e : α → PV} : ∀ {xs : List PV}, (∀ x ∈ xs, ∃ d, Q d ∧ x = e d) → ∃ l : List α, xs = l.map e ∧ ∀ d ∈ l, Q d
 | [], _ => ⟨[], rfl, by simp⟩
 | x :: xs, h => by
  obtain ⟨d, hd, rfl⟩ := h x (List.mem_cons_self ..)
  obtain ⟨l, rfl, hl⟩ := map_of (xs := xs) fun y hy => h y (List.mem_cons_of_mem _ hy)
  refine ⟨d :: l, rfl, fun z hz => ?_⟩
  rcases List.mem_cons.1 hz with rfl | hz
  ·exact hd
  ·exact hl z hz
theorem wt_sl {α : Type} {Q : α → Prop} {e : α → PV} {n : Nat} {t el s : TypeId} {ps : List PV} {a b c : Nat} {z : Option (List PV)} (ht : tys[t]? = some ⟨.sl el s c, a, b, z⟩) (h : WT tys (n + 1) t ps)
  (he : ∀ cells, WT tys n el cells → ∃ d, Q d ∧ mkE (((tys[el]?).map fun ti => ti.tk.agg).getD false) cells = e d) : ∃ l : List α, ps = [.sl (l.map e)] ∧ l.length ≤ maxLen ∧ ∀ d ∈ l, Q d := by
 unfold WT at h
 rw [ht] at h
 obtain ⟨xs, rfl, hl, hx⟩ := h
 obtain ⟨l, rfl, hq⟩ := map_of (e := e) (Q := Q) (xs := xs) fun x hxm => by
  obtain ⟨_, h2, h3⟩ := hx x hxm
  obtain ⟨d, hd, hde⟩ := he _ h2
  exact ⟨d, hd, h3.trans hde⟩
 exact ⟨l, rfl, by simpa only [List.length_map] using hl, hq⟩
theorem wt_ints {n : Nat} {cells : List PV} (h : WT tys (n + 2) 22 cells) : ∃ l : List Int, cells = [.sl (l.map eInt)] ∧ l.length ≤ maxLen := by
 obtain ⟨l, h0, hl, _⟩ := wt_sl (t := 22) (e := eInt) (Q := fun _ => True) rfl h fun cells hc => by
  obtain ⟨m, rfl, _⟩ := wt_int (t := 3) rfl hc
  exact ⟨m, trivial, rfl⟩
 exact ⟨l, h0, hl⟩
open Go.RowKit Go.WideShapes Go.ChangeShapes Go.ChangeAt
theorem ownK : ownKnob Tryz.prog.godebug = none := by kernel_rfl
theorem laidOut : laidOutB Tryz.prog = true := by kernel_rfl
theorem maxLen_cell {W : World} (h : W.ShapedOpen Tryz.prog) : ∃ m, W.cell? ⟨2, 0, none⟩ = some (.int .i64 m) :=
 cell_of_shapedOpen_int (t := 3) (zero := #[.int .i64 0]) h (of_decide_eq_true (by kernel_rfl)) (by kernel_rfl) rfl (by kernel_rfl) (by kernel_rfl) Tryz.underlying3
theorem gm_of {W : World} (h : W.ShapedOpen Tryz.prog) : 3 ≤ W.heap.size ∧ GM ⟨3, fun b => W.heap[b]?⟩ := by
 obtain ⟨m, hm⟩ := maxLen_cell h
 refine ⟨?_, fun w hw => ⟨m, ?_⟩⟩
 ·unfold World.cell? at hm
  split at hm
  ·rename_i hh
   exact (Array.getElem?_eq_some_iff.1 hh).1
  ·cases hm
 ·rw [cell_same (w := W) (hw 2 (show 2 < 3 by decide)) 0]
  exact hm
theorem laid_tail {P : Program} {x : String × DataW Unit} {r : List (String × DataW Unit)} {w : World} (h : laidMet P (x :: r) w) : laidMet P r w := by
 obtain ⟨ps, hv, hnd, hrows⟩ := h
 obtain ⟨n, d⟩ := x
 obtain ⟨g, t, cs, fuel, p, q, _, _, _, _, hq, rfl⟩ := hv
 exact ⟨q, hq, List.Nodup.sublist (List.sublist_append_right _ _) hnd, fun b off hm => hrows b off (List.mem_append_right _ hm)⟩
theorem cells_of_strs {H : Type} {enc : TypeId × Value → H} {P : Program} {w : World} {base : Nat} {sp : Nat → Bool} {held : Bool} {fuel : Nat} {t e : TypeId} {n : Nat} {cs : List Value} {zs : List Str} {p : List MemPlace}
  (ht : P.underlying t = some (.array n e)) (he : P.underlying e = some .string) (hce : P.cellsOf e = 1) (hct : P.cellsOf t = n)
  (h : DataW.trod enc P w base sp held fuel t cs = some (.agg (zs.map fun z => .lit (.string z)), p)) : cs = zs.map fun z => Value.string ⟨z.toArray⟩ := by
 cases fuel with
 | zero => simp [DataW.trod] at h
 | succ fuel =>
  simp only [DataW.trod, ht, hce, hct, Nat.mul_one] at h
  split at h
  ·rename_i hl
   obtain ⟨xs, hm, hx⟩ := Option.map_eq_some_iff.1 h
   have hxs : xs.map (·.1) = zs.map fun z => (DataW.lit (.string z) : DataW H) := by
    have := congrArg Prod.fst hx
    simpa using this
   have hxl : xs.length = n := by simpa using Lib.mapM_length hm
   have hzl : zs.length = n := by
    have := congrArg List.length hxs
    simp at this
    omega
   apply List.ext_getElem?
   intro i
   by_cases hi : i < n
   ·obtain ⟨b, hb, hf⟩ := Lib.mapM_at hm i i (by simp [hi])
    obtain ⟨z, hc, rfl, _⟩ := DataW.trod_string he hf
    have h1 : cs[i]? = some (.string z) := by
     have := congrArg (·[0]?) hc
     simpa [List.getElem?_take, List.getElem?_drop] using this
    have h2 : (xs.map (·.1))[i]? = some (DataW.lit (.string z.data.toList) : DataW H) := by simp [hb]
    rw [hxs] at h2
    simp only [List.getElem?_map, Option.map_eq_some_iff, DataW.lit.injEq, Lit.string.injEq] at h2
    obtain ⟨z', hz', e'⟩ := h2
    rw [h1, List.getElem?_map, hz', e']
    rfl
   ·rw [List.getElem?_eq_none (by omega), List.getElem?_eq_none (by simp; omega)]
  ·cases h
theorem days_at : Tryz.prog.globalNamed "netsegment/calendar.names" = some 0 := by kernel_rfl
theorem gd_of {rest : List (String × DataW Unit)} {W : World} (h : laidMet Tryz.prog (("netsegment/calendar.names", Rows.laid_netsegment_calendar_names) :: rest) W) : GD ⟨3, fun b => W.heap[b]?⟩ := by
 obtain ⟨ps, ⟨g', t', cs, fuel, p, q, hg', ht', hvar, hd, _, _⟩, _⟩ := h
 obtain rfl := Option.some.inj (days_at.symm.trans hg')
 have hty : (Tryz.prog.globals[0]?).map (·.type) = some t' := ht'
 have e0 : cs.toList = dayNames.map fun z => Value.string ⟨z.toArray⟩ := by
  obtain rfl : 203 = t' := Option.some.inj ((show (Tryz.prog.globals[0]?).map (·.type) = some 203 by kernel_rfl).symm.trans hty)
  exact cells_of_strs (t := 203) (e := 9) (n := 7) (by kernel_rfl) (by kernel_rfl) (by kernel_rfl) (by kernel_rfl) (zs := dayNames) hd
 refine ⟨show 0 < 3 by decide, by decide, fun w hw j x hx => ?_⟩
 rw [cell_same (w := W) (hw 0 (show 0 < 3 by decide)) j, World.var?_cell days_at hvar j, ← Array.getElem?_toList, e0]
 rw [List.getElem?_map] at hx ⊢
 cases hz : dayNames[j]? with
 | none => rw [hz] at hx; cases hx
 | some z => rw [hz] at hx; cases hx; rfl

end
end Go.Proofs.YtkaobkjcjodffaaGreatDoor