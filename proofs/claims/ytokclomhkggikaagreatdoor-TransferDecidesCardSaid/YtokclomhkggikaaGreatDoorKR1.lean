/-
 What the arguments of the laws on intents read as.
 What the arguments of the laws on transfer read as.
 What the laws' cards ask of the program and of its variable box.tops, once for all laws.
-/
import Derived.Test.YtokclomhkggikaaGreatDoorJPwRead
import Derived.Test.YtokclomhkggikaaGreatDoorKA2
import Derived.Test.YtokclomhkggikaaGreatDoorCards
import Derived.Test.YtokclomhkggikaaGreatDoorTie
import Derived.Lay
import Derived.LaidOnce
import Derived.Shelf.Vars
import Derived.SevenTiedAt
import Derived.Lib.LaidTab
import Derived.Test.YtokclomhkggikaaGreatDoorKU1
namespace Go.Proofs.YtokclomhkggikaaGreatDoor
open Go Go.Pw
section
theorem wt_int {n : Nat} {t : TypeId} {ps : List PV} {k : IntKind} {a b : Nat} {z : Option (List PV)} (ht : tys[t]? = some ⟨.int k, a, b, z⟩) (h : WT tys (n + 1) t ps) : ∃ m, ps = [.int k m] ∧ k.min ≤ m ∧ m ≤ k.max := by
 unfold WT at h
 rw [ht] at h
 obtain ⟨m, hm, hw⟩ := h
 refine ⟨m, hm, ?_⟩
 simpa [Lit.wf] using hw
theorem wt_bool {n : Nat} {t : TypeId} {ps : List PV} {a b : Nat} {z : Option (List PV)} (ht : tys[t]? = some ⟨.bool, a, b, z⟩) (h : WT tys (n + 1) t ps) : ∃ m, ps = [.bool m] := by
 unfold WT at h
 rw [ht] at h
 exact h
theorem wt_str {n : Nat} {t : TypeId} {ps : List PV} {a b : Nat} {z : Option (List PV)} (ht : tys[t]? = some ⟨.str, a, b, z⟩) (h : WT tys (n + 1) t ps) : ∃ m, ps = [.str m] := by
 unfold WT at h
 rw [ht] at h
 obtain ⟨m, hm, _⟩ := h
 exact ⟨m, hm⟩
theorem wt_strct {n : Nat} {t : TypeId} {ps : List PV} {l : List (Nat × Nat × Bool × TypeId)} {a b : Nat} {z : Option (List PV)} (ht : tys[t]? = some ⟨.strct l, a, b, z⟩) (h : WT tys (n + 1) t ps) : ps.length = a ∧ ∀ (i : Nat) x, l[i]? = some x → WT tys n x.2.2.2 ((ps.drop x.1).take x.2.1) := by
 unfold WT at h
 rw [ht] at h
 exact ⟨h.1, fun i x hx => h.2 x (List.mem_of_getElem? hx)⟩
theorem map_of {α : Type} {Q : α → Prop} {e : α → PV} : ∀ {xs : List PV}, (∀ x ∈ xs, ∃ d, Q d ∧ x = e d) → ∃ l : List α, xs = l.map e ∧ ∀ d ∈ l, Q d
 | [], _ => ⟨[], rfl, by simp⟩
 | x :: xs, h => by
  obtain ⟨d, hd, rfl⟩ := h x (List.mem_cons_self ..)
  obtain ⟨l, rfl, hl⟩ := map_of (xs := xs) fun y hy => h y (List.mem_cons_of_mem _ hy)
  refine ⟨d :: l, rfl, fun z hz => ?_⟩
  rcases List.mem_cons.1 hz with rfl | hz
  ·exact hd
  ·exact hl z hz
theorem wt_sl {α : Type} {Q : α → Prop} {e : α → PV} {n : Nat} {t el s : TypeId} {ps : List PV} {a b c : Nat} {z : Option (List PV)} (ht : tys[t]? = some ⟨.sl el s c, a, b, z⟩) (h : WT tys (n + 1) t ps)
  (he : ∀ cells, WT tys n el cells → ∃ d, Q d ∧ mkE (((tys[el]?).map fun ti => ti.tk.agg).getD false) cells = e d) : ∃ l : List α, ps = [.sl (l.map e)] ∧ l.length ≤ maxLen ∧ ∀ d ∈ l, Q d := by
 unfold WT at h
 rw [ht] at h
 obtain ⟨xs, rfl, hl, hx⟩ := h
 obtain ⟨l, rfl, hq⟩ := map_of (e := e) (Q := Q) (xs := xs) fun x hxm => by
  obtain ⟨_, h2, h3⟩ := hx x hxm
  obtain ⟨d, hd, hde⟩ := he _ h2
  exact ⟨d, hd, h3.trans hde⟩
 exact ⟨l, rfl, by simpa only [List.length_map] using hl, hq⟩
theorem u32_bounds {m : Int} (h : IntKind.u32.min ≤ m ∧ m ≤ IntKind.u32.max) : 0 ≤ m ∧ m < 4294967296 := by
 have h1 : IntKind.u32.min = 0 := by decide
 have h2 : IntKind.u32.max = 4294967295 := by decide
 rw [h1, h2] at h
 omega
theorem wt_ints {n : Nat} {cells : List PV} (h : WT tys (n + 2) 22 cells) : ∃ l : List Int, cells = [.sl (l.map eInt)] ∧ l.length ≤ maxLen := by
 obtain ⟨l, h0, hl, _⟩ := wt_sl (t := 22) (e := eInt) (Q := fun _ => True) rfl h fun cells hc => by
  obtain ⟨m, rfl, _⟩ := wt_int (t := 3) rfl hc
  exact ⟨m, trivial, rfl⟩
 exact ⟨l, h0, hl⟩
theorem wt_arr {n : Nat} {t : TypeId} {ps : List PV} {m e s a b : Nat} {z : Option (List PV)} (ht : tys[t]? = some ⟨.arr m e s, a, b, z⟩) (h : WT tys (n + 1) t ps) : ps.length = a ∧ ∀ i, i < m → WT tys n e ((ps.drop (i * s)).take s) := by
 unfold WT at h
 rw [ht] at h
 exact h
theorem wt_rngB {n : Nat} {cells : List PV} (h : WT tys (n + 2) 61 cells) : ∃ r, RIn r ∧ cells = [.int .u32 r.lo, .int .u32 r.hi] := by
 obtain ⟨hl, hf⟩ := wt_strct (t := 61) rfl h
 match cells, hl with
 | [c0, c1], _ =>
  obtain ⟨a, ha, hb⟩ := wt_int (t := 30) rfl (hf 0 _ rfl)
  obtain ⟨b, hbb, hc⟩ := wt_int (t := 30) rfl (hf 1 _ rfl)
  cases ha; cases hbb
  exact ⟨⟨a, b⟩, ⟨u32_bounds hb, u32_bounds hc⟩, rfl⟩
theorem wt_boxB {n : Nat} {cells : List PV} (h : WT tys (n + 3) 63 cells) : ∃ b, BoxIn b ∧ cells = (eBox b).cells := by
 obtain ⟨hl, hf⟩ := wt_arr (t := 63) rfl h
 match cells, hl with
 | [c0, c1, c2, c3, c4, c5, c6, c7, c8, c9], _ =>
  obtain ⟨r0, h0, e0⟩ := wt_rngB (hf 0 (by decide))
  obtain ⟨r1, h1, e1⟩ := wt_rngB (hf 1 (by decide))
  obtain ⟨r2, h2, e2⟩ := wt_rngB (hf 2 (by decide))
  obtain ⟨r3, h3, e3⟩ := wt_rngB (hf 3 (by decide))
  obtain ⟨r4, h4, e4⟩ := wt_rngB (hf 4 (by decide))
  cases e0; cases e1; cases e2; cases e3; cases e4
  exact ⟨⟨r0, r1, r2, r3, r4⟩, ⟨h0, h1, h2, h3, h4⟩, rfl⟩
theorem wt_ruleB {n : Nat} {cells : List PV} (h : WT tys (n + 4) 125 cells) : ∃ r : TRule, BoxIn r.m ∧ PV.agg cells = eRule r := by
 obtain ⟨hl, hf⟩ := wt_strct (t := 125) rfl h
 match cells, hl with
 | [c0, c1, c2, c3, c4, c5, c6, c7, c8, c9, c10], _ =>
  obtain ⟨b, hb, e⟩ := wt_boxB (hf 0 _ rfl)
  obtain ⟨p, hp⟩ := wt_bool (t := 4) rfl (hf 1 _ rfl)
  cases e; cases hp
  exact ⟨⟨b, p⟩, hb, rfl⟩
theorem wt_steerB {n : Nat} {cells : List PV} (h : WT tys (n + 4) 137 cells) : ∃ r : TSteer, BoxIn r.m ∧ PV.agg cells = eSteer r := by
 obtain ⟨hl, hf⟩ := wt_strct (t := 137) rfl h
 match cells, hl with
 | [c0, c1, c2, c3, c4, c5, c6, c7, c8, c9, c10], _ =>
  obtain ⟨b, hb, e⟩ := wt_boxB (hf 0 _ rfl)
  obtain ⟨p, hp⟩ := wt_str (t := 9) rfl (hf 1 _ rfl)
  cases e; cases hp
  exact ⟨⟨b, p⟩, hb, rfl⟩
theorem wt_moveB {n : Nat} {cells : List PV} (h : WT tys (n + 4) 141 cells) : ∃ r : TMove, (BoxIn r.src ∧ BoxIn r.dst) ∧ PV.agg cells = eMove r := by
 obtain ⟨hl, hf⟩ := wt_strct (t := 141) rfl h
 match cells, hl with
 | [c0, c1, c2, c3, c4, c5, c6, c7, c8, c9, d0, d1, d2, d3, d4, d5, d6, d7, d8, d9], _ =>
  obtain ⟨b, hb, e⟩ := wt_boxB (hf 0 _ rfl)
  obtain ⟨c, hc, e'⟩ := wt_boxB (hf 1 _ rfl)
  cases e; cases e'
  exact ⟨⟨b, c⟩, ⟨hb, hc⟩, rfl⟩
theorem wt_hideB {n : Nat} {cells : List PV} (h : WT tys (n + 4) 139 cells) : ∃ r : THide, (BoxIn r.m ∧ (0 ≤ r.addr ∧ r.addr < 4294967296) ∧ RIn r.ports) ∧ PV.agg cells = eHide r := by
 obtain ⟨hl, hf⟩ := wt_strct (t := 139) rfl h
 match cells, hl with
 | [c0, c1, c2, c3, c4, c5, c6, c7, c8, c9, d0, d1, d2], _ =>
  obtain ⟨b, hb, e⟩ := wt_boxB (hf 0 _ rfl)
  obtain ⟨a, ha, hc⟩ := wt_int (t := 30) rfl (hf 1 _ rfl)
  obtain ⟨r, hr, e'⟩ := wt_rngB (hf 2 _ rfl)
  cases e; cases ha; cases e'
  exact ⟨⟨b, a, r⟩, ⟨hb, u32_bounds hc, hr⟩, rfl⟩
structure PortAny (p : TPort) : Prop where
 ing : ∀ r ∈ p.ing, BoxIn r.m
 egr : ∀ r ∈ p.egr, BoxIn r.m
 moves : ∀ r ∈ p.moves, BoxIn r.src ∧ BoxIn r.dst
 hides : ∀ r ∈ p.hides, BoxIn r.m ∧ (0 ≤ r.addr ∧ r.addr < 4294967296) ∧ RIn r.ports
 steers : ∀ r ∈ p.steers, BoxIn r.m
theorem wt_port {n : Nat} {cells : List PV} (h : WT tys (n + 6) 29 cells) : ∃ p : TPort, PortAny p ∧ PV.agg cells = ePort p := by
 obtain ⟨hl, hf⟩ := wt_strct (t := 29) rfl h
 match cells, hl with
 | [c0, c1, c2, c3, c4, c5], _ =>
  obtain ⟨e, he, _⟩ := wt_int (t := 3) rfl (hf 0 _ rfl)
  obtain ⟨a, h1, _, q1⟩ := wt_sl (t := 24) (e := eRule) (Q := fun r => BoxIn r.m) rfl (hf 1 _ rfl) fun cells hc => wt_ruleB hc
  obtain ⟨b, h2, _, q2⟩ := wt_sl (t := 24) (e := eRule) (Q := fun r => BoxIn r.m) rfl (hf 2 _ rfl) fun cells hc => wt_ruleB hc
  obtain ⟨m, h3, _, q3⟩ := wt_sl (t := 25) (e := eMove) (Q := fun r => BoxIn r.src ∧ BoxIn r.dst) rfl (hf 3 _ rfl) fun cells hc => wt_moveB hc
  obtain ⟨d, h4, _, q4⟩ := wt_sl (t := 26) (e := eHide) (Q := fun r => BoxIn r.m ∧ (0 ≤ r.addr ∧ r.addr < 4294967296) ∧ RIn r.ports) rfl (hf 4 _ rfl) fun cells hc => wt_hideB hc
  obtain ⟨s, h5, _, q5⟩ := wt_sl (t := 27) (e := eSteer) (Q := fun r => BoxIn r.m) rfl (hf 5 _ rfl) fun cells hc => wt_steerB hc
  cases he; cases h1; cases h2; cases h3; cases h4; cases h5
  exact ⟨⟨e, a, b, m, d, s⟩, ⟨q1, q2, q3, q4, q5⟩, rfl⟩
theorem u8_bounds {m : Int} (h : IntKind.u8.min ≤ m ∧ m ≤ IntKind.u8.max) : 0 ≤ m ∧ m < 256 := by
 have h1 : IntKind.u8.min = 0 := by decide
 have h2 : IntKind.u8.max = 255 := by decide
 rw [h1, h2] at h
 omega
theorem u16_bounds {m : Int} (h : IntKind.u16.min ≤ m ∧ m ≤ IntKind.u16.max) : 0 ≤ m ∧ m < 65536 := by
 have h1 : IntKind.u16.min = 0 := by decide
 have h2 : IntKind.u16.max = 65535 := by decide
 rw [h1, h2] at h
 omega
theorem wt_hdr {n : Nat} {cells : List PV} (h : WT tys (n + 2) 33 cells) : ∃ x : THdr, HdrIn x ∧ PV.agg cells = eHdr x := by
 obtain ⟨hl, hf⟩ := wt_strct (t := 33) rfl h
 match cells, hl with
 | [c0, c1, c2, c3, c4], _ =>
  obtain ⟨a, ha, h0⟩ := wt_int (t := 30) rfl (hf 0 _ rfl)
  obtain ⟨b, hb, h1⟩ := wt_int (t := 30) rfl (hf 1 _ rfl)
  obtain ⟨c, hc, h2⟩ := wt_int (t := 5) rfl (hf 2 _ rfl)
  obtain ⟨d, hd, h3⟩ := wt_int (t := 31) rfl (hf 3 _ rfl)
  obtain ⟨e, he, h4⟩ := wt_int (t := 31) rfl (hf 4 _ rfl)
  cases ha; cases hb; cases hc; cases hd; cases he
  exact ⟨⟨a, b, c, d, e⟩, ⟨u32_bounds h0, u32_bounds h1, u8_bounds h2, u16_bounds h3, u16_bounds h4⟩, rfl⟩
open Go.RowKit Go.WideShapes Go.ChangeShapes Go.ChangeAt
theorem ownK : ownKnob Tryz.prog.godebug = none := by kernel_rfl
theorem laidOut : laidOutB Tryz.prog = true := by kernel_rfl
theorem cells_of_ints {H : Type} {enc : TypeId × Value → H} {P : Program} {w : World} {base : Nat} {sp : Nat → Bool} {held : Bool} {fuel : Nat} {t e : TypeId} {k : IntKind} {cs : List Value} {zs : List Int} {p : List MemPlace}
  (ht : P.underlying t = some (.array zs.length e)) (he : P.underlying e = some (.int k)) (hce : P.cellsOf e = 1) (hct : P.cellsOf t = zs.length)
  (h : DataW.trod enc P w base sp held fuel t cs = some (.agg (zs.map fun z => .lit (.int k z)), p)) : cs = zs.map fun z => Value.int k z := by
 obtain ⟨xs, m, _, hx, hl, hxl, hel⟩ := DataW.trod_array ht h
 rw [hct] at hl
 rw [hce] at hel
 have hxs : xs.map (·.1) = zs.map fun z => (DataW.lit (.int k z) : DataW H) := by
  have := congrArg Prod.fst hx
  simpa using this.symm
 apply List.ext_getElem?
 intro i
 by_cases hi : i < zs.length
 ·have hf := hel i hi
  rw [List.getElem?_eq_getElem (by omega)] at hf
  obtain ⟨z, hc, hz, _⟩ := DataW.trod_int he hf
  have h1 : cs[i]? = some (.int k z) := by
   have := congrArg (·[0]?) hc
   simpa [List.getElem?_take, List.getElem?_drop] using this
  have h2 : (xs.map (·.1))[i]? = some (xs[i].1) := by
   rw [List.getElem?_map, List.getElem?_eq_getElem (by omega)]; rfl
  have hz1 : xs[i].1 = DataW.lit (.int k z) := congrArg Prod.fst hz
  rw [hxs, List.getElem?_map, List.getElem?_eq_getElem hi, hz1] at h2
  simp only [Option.map_some, Option.some.injEq, DataW.lit.injEq, Lit.int.injEq, true_and] at h2
  rw [h1, List.getElem?_map, List.getElem?_eq_getElem hi, ← h2]
  rfl
 ·rw [List.getElem?_eq_none (by omega), List.getElem?_eq_none (by simp; omega)]
def topsL : List Int := [4294967295, 4294967295, 255, 65535, 65535]
theorem tops_at : Tryz.prog.globalNamed "netsegment/box.tops" = some 0 := by kernel_rfl
theorem gbt_of {rest : List (String × DataW Unit)} {W : World} (h : laidMet Tryz.prog (("netsegment/box.tops", Rows.laid_netsegment_box_tops) :: rest) W) : 1 ≤ W.heap.size ∧ GBoxT ⟨1, fun b => W.heap[b]?⟩ := by
 obtain ⟨ps, ⟨g', t', cs, fuel, p, q, hg', ht', hvar, hd, _, _⟩, _⟩ := h
 obtain rfl := Option.some.inj (tops_at.symm.trans hg')
 have hty : (Tryz.prog.globals[0]?).map (·.type) = some t' := ht'
 have e0 : cs.toList = topsL.map fun z => Value.int .u32 z := by
  obtain rfl : 126 = t' := Option.some.inj ((show (Tryz.prog.globals[0]?).map (·.type) = some 126 by kernel_rfl).symm.trans hty)
  exact cells_of_ints (t := 126) (e := 30) (by kernel_rfl) (by kernel_rfl) (by kernel_rfl) (by kernel_rfl) (zs := topsL) hd
 have cell : ∀ (j : Nat) x, topsL[j]? = some x → W.cell? ⟨0, j, none⟩ = some (.int .u32 x) := fun j x hx => by
  rw [World.var?_cell tops_at hvar j, ← Array.getElem?_toList, e0, List.getElem?_map, hx]
  rfl
 refine ⟨?_, show 0 < 1 by decide, by decide, fun w hw j x hx => ?_⟩
 ·have hm := cell 0 _ rfl
  unfold World.cell? at hm
  split at hm
  ·rename_i hh
   have := (Array.getElem?_eq_some_iff.1 hh).1
   omega
  ·cases hm
 ·rw [cell_same (w := W) (hw 0 (show 0 < 1 by decide)) j]
  match j, hx with
  | 0, hx => cases hx; exact cell 0 _ rfl
  | 1, hx => cases hx; exact cell 1 _ rfl
  | 2, hx => cases hx; exact cell 2 _ rfl
  | 3, hx => cases hx; exact cell 3 _ rfl
  | 4, hx => cases hx; exact cell 4 _ rfl
  | j + 5, hx => simp at hx

end
end Go.Proofs.YtokclomhkggikaaGreatDoor