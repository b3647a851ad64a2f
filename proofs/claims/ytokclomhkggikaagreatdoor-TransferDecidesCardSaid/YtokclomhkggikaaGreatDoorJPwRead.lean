/-
 What comes in as data reads as pure values whose cells never change.
 From a contract over pure values to the statement of a law: every input answers true, and reads behind the call as it did.
 The wrap of a row, with the row's own condition handed on to the contract.
-/
import Derived.Carry
import Derived.OpenShut
import Derived.Test.YtokclomhkggikaaGreatDoorJPwFork
import Derived.HandedShaped
import Derived.ProofKit
namespace Go.Pw
open Go
def mkE (agg : Bool) (cells : List PV) : PV := match agg with | true => .agg cells | false => cells.headD .any
def laidL : List (Nat × Nat × Bool × TypeId) → Nat → Option Nat
 | [], off => some off
 | (o, s, _, _) :: l, off => if o = off then laidL l (off + s) else none
def rdOk (tys : List TI) : Nat → TypeId → Bool
 | 0, _ => false
 | n + 1, t => match tys[t]? with
  | some ⟨.bool, 1, _, _⟩ => true
  | some ⟨.int _, 1, _, _⟩ => true
  | some ⟨.str, 1, _, _⟩ => true
  | some ⟨.strct l, s, _, _⟩ => laidL l 0 == some s && l.all fun x => rdOk tys n x.2.2.2
  | some ⟨.sl e s _, 1, _, _⟩ => decide (0 < s) && rdOk tys n e && (match tys[e]? with | some ti => ti.size == s && (ti.tk.agg || ti.size == 1) | none => false)
  | some ⟨.arr m e s, z, _, _⟩ => z == m * s && rdOk tys n e
  | _ => false
def WT (tys : List TI) : Nat → TypeId → List PV → Prop
 | 0, _, _ => False
 | n + 1, t, ps => match tys[t]? with
  | some ⟨.bool, _, _, _⟩ => ∃ b, ps = [.bool b]
  | some ⟨.int k, _, _, _⟩ => ∃ m, ps = [.int k m] ∧ (Lit.int k m).wf = true
  | some ⟨.str, _, _, _⟩ => ∃ s, ps = [.str s] ∧ s.length ≤ maxLen
  | some ⟨.strct l, s, _, _⟩ => ps.length = s ∧ ∀ x ∈ l, WT tys n x.2.2.2 ((ps.drop x.1).take x.2.1)
  | some ⟨.sl e s _, _, _, _⟩ => ∃ xs : List PV, ps = [.sl xs] ∧ xs.length ≤ maxLen ∧ ∀ x ∈ xs, x.cells.length = s ∧ WT tys n e x.cells ∧ x = mkE (((tys[e]?).map fun ti => ti.tk.agg).getD false) x.cells
  | some ⟨.arr m e s, z, _, _⟩ => ps.length = z ∧ ∀ i, i < m → WT tys n e ((ps.drop (i * s)).take s)
  | _ => False
section
variable {P : Program} {tys : List TI} {H : Type} {enc : TypeId × Value → H} {w : World} {base : Nat} {spare : Nat → Bool} {held : Bool}
def oldB (w : World) (b : Nat) : Prop := b < w.heap.size
def CellsDen (w : World) (ps : List PV) (cs : List Value) : Prop := ps.length = cs.length ∧ ∀ (j : Nat) c v, ps[j]? = some c → cs[j]? = some v → Den (oldB w) w [] c v
theorem CellsDen.one {c : PV} {v : Value} (h : Den (oldB w) w [] c v) : CellsDen w [c] [v] := ⟨rfl, fun j c' v' h1 h2 => by
 cases j with
 | zero => simp at h1 h2; subst h1; subst h2; exact h
 | succ j => simp at h1⟩
theorem CellsDen.append {ps qs : List PV} {cs ds : List Value} (h : CellsDen w ps cs) (g : CellsDen w qs ds) : CellsDen w (ps ++ qs) (cs ++ ds) := by
 refine ⟨by simp [h.1, g.1], fun j c v h1 h2 => ?_⟩
 by_cases hj : j < ps.length
 ·rw [List.getElem?_append_left hj] at h1
  rw [List.getElem?_append_left (by rw [← h.1]; exact hj)] at h2
  exact h.2 j c v h1 h2
 ·rw [List.getElem?_append_right (by omega)] at h1
  rw [List.getElem?_append_right (by rw [← h.1]; omega), ← h.1] at h2
  exact g.2 _ c v h1 h2
theorem drop_take_split {α : Type} (cs : List α) (a n : Nat) : cs.drop a = (cs.drop a).take n ++ cs.drop (a + n) := by
 rw [← List.drop_drop, List.take_append_drop]
theorem read_fields {n fuel : Nat} (cs : List Value) (hR : ∀ t c x, rdOk tys n t = true → DataW.trod enc P w base spare held fuel t c = some x → ∃ ps, CellsDen w ps c ∧ WT tys n t ps) :
  ∀ (fs : List Field) (l : List (Nat × Nat × Bool × TypeId)) (off fin : Nat), fldsOf P fs = some l → laidL l off = some fin → cs.length = fin → off ≤ fin → (l.all fun x => rdOk tys n x.2.2.2) = true →
   (∀ f ∈ fs, ∃ x, DataW.trod enc P w base spare held fuel f.type ((cs.drop f.offset).take (P.cellsOf f.type)) = some x) →
   ∃ ps, CellsDen w ps (cs.drop off) ∧ ∀ x ∈ l, off ≤ x.1 ∧ WT tys n x.2.2.2 ((ps.drop (x.1 - off)).take x.2.1)
 | [], l, off, fin, hl, hlay, hcs, hle, _, _ => by
  cases hl
  simp only [laidL, Option.some.injEq] at hlay
  subst hlay
  exact ⟨[], ⟨by simp [hcs], by simp⟩, by simp⟩
 | f :: fs, l, off, fin, hl, hlay, hcs, hle, hok, hall => by
  unfold fldsOf at hl
  split at hl
  ·rename_i x xs hx hxs
   cases hl
   unfold fldOf at hx
   split at hx
   ·rename_i s d hs hd
    cases hx
    simp only [laidL] at hlay
    split at hlay
    ·rename_i hoff
     simp only [List.all_cons, Bool.and_eq_true] at hok
     obtain ⟨y, hy⟩ := hall f (List.mem_cons_self ..)
     have hcell : P.cellsOf f.type = s := by
      unfold szOf at hs
      simp [Program.cellsOf, hs]
     rw [hcell, hoff] at hy
     obtain ⟨p1, hd1, hw1⟩ := hR _ _ _ hok.1 hy
     have hmono : ∀ (l : List (Nat × Nat × Bool × TypeId)) (a b : Nat), laidL l a = some b → a ≤ b := by
      intro l
      induction l with
      | nil => intro a b h; simp [laidL] at h; omega
      | cons z l ih =>
       intro a b h
       obtain ⟨o, s, g, u⟩ := z
       simp only [laidL] at h
       split at h
       ·have := ih _ _ h; omega
       ·cases h
     have hle2 := hmono _ _ _ hlay
     obtain ⟨p2, hd2, hw2⟩ := read_fields cs hR fs xs (off + s) fin hxs hlay hcs hle2 hok.2 (fun g hg => hall g (List.mem_cons_of_mem _ hg))
     have hl1 : p1.length = s := by rw [hd1.1]; simp; omega
     refine ⟨p1 ++ p2, ?_, ?_⟩
     ·rw [drop_take_split cs off s]
      exact hd1.append hd2
     ·intro z hz
      rcases List.mem_cons.1 hz with rfl | hz
      ·refine ⟨by omega, ?_⟩
       show WT tys n f.type (((p1 ++ p2).drop (f.offset - off)).take s)
       rw [hoff, Nat.sub_self, List.drop_zero, ← hl1, List.take_left]
       exact hw1
      ·obtain ⟨g1, g2⟩ := hw2 z hz
       refine ⟨by omega, ?_⟩
       rw [List.drop_append, show (p1.drop (z.1 - off)) = [] from List.drop_of_length_le (by omega), List.nil_append, hl1, show z.1 - off - s = z.1 - (off + s) by omega]
       exact g2
    ·cases hlay
   ·cases hx
  ·cases hl
theorem add_at (a : Addr) (n : Nat) (h : a.spot = none) : a.add n = ⟨a.block, a.off + n, none⟩ := by
 obtain ⟨b, o, s⟩ := a
 cases h
 exact addr_add b o n
theorem read_den (hT : Tys P tys) : ∀ (n : Nat) (t : TypeId) (fuel : Nat) (cs : List Value) (x : DataW H × List MemPlace), rdOk tys n t = true → DataW.trod enc P w base spare held fuel t cs = some x → ∃ ps, CellsDen w ps cs ∧ WT tys n t ps
 | 0, t, fuel, cs, x, hok, _ => by cases hok
 | n + 1, t, fuel, cs, x, hok, h => by
  unfold rdOk at hok
  unfold WT
  split at hok
  ·rename_i z1 z2 ht
   obtain ⟨i, td, hi1, hu, htk, _⟩ := tyOf_spec (hT _ _ ht)
   have : td = .bool := by
    unfold tkOf at htk
    split at htk <;> first | rfl | (cases htk; done) | (split at htk <;> cases htk)
   subst this
   obtain ⟨b, rfl, _⟩ := DataW.trod_bool hu h
   simp only [ht]
   exact ⟨[.bool b], .one (.bool ..), b, rfl⟩
  ·rename_i k z1 z2 ht
   obtain ⟨i, td, hi1, hu, htk, _⟩ := tyOf_spec (hT _ _ ht)
   obtain rfl := tkOf_int htk
   obtain ⟨m, rfl, _, hwf⟩ := DataW.trod_int hu h
   simp only [ht]
   exact ⟨[.int k m], .one (.int ..), m, rfl, hwf⟩
  ·rename_i z1 z2 ht
   obtain ⟨i, td, hi1, hu, htk, _⟩ := tyOf_spec (hT _ _ ht)
   obtain rfl := tkOf_str htk
   obtain ⟨s, rfl, _, hl⟩ := DataW.trod_string hu h
   simp only [ht]
   refine ⟨[.str s.data.toList], .one ?_, s.data.toList, rfl, by rw [Array.length_toList]; exact hl⟩
   exact .str [] s.data.toList
  ·rename_i l s z1 z2 ht
   obtain ⟨i, td, hi1, hu, htk, hsz, _⟩ := tyOf_spec (hT _ _ ht)
   obtain ⟨fs, rfl, hfs⟩ := tkOf_strct htk
   simp only [Bool.and_eq_true, beq_iff_eq] at hok
   obtain ⟨xs, fuel', rfl, _, hlen, hxl, hfld⟩ := DataW.trod_struct hu h
   have hcl : P.cellsOf t = s := by
    have : s = i.size := hsz
    simp [Program.cellsOf, hi1, this]
   rw [hcl] at hlen
   obtain ⟨ps, hd, hw⟩ := read_fields cs (fun t c x h1 h2 => read_den hT n t fuel' c x h1 h2) fs.toList l 0 s hfs hok.1 hlen (Nat.zero_le _) hok.2 (fun f hf => by
    obtain ⟨j, hj⟩ := List.mem_iff_getElem?.1 hf
    have hj' : fs[j]? = some f := by simpa using hj
    have := hfld j f hj'
    have hjl : j < xs.length := by rw [hxl]; exact (Array.getElem?_eq_some_iff.1 hj').1
    rw [List.getElem?_eq_getElem hjl] at this
    exact ⟨_, this⟩)
   simp only [ht]
   refine ⟨ps, by simpa using hd, by rw [hd.1]; simpa using hlen, fun y hy => ?_⟩
   have := (hw y hy).2
   rwa [Nat.sub_zero] at this
  ·rename_i e s b z1 z2 ht
   obtain ⟨i, td, hi1, hu, htk, _⟩ := tyOf_spec (hT _ _ ht)
   obtain ⟨rfl, ie, hie, hise, _⟩ := tkOf_sl htk
   simp only [Bool.and_eq_true, decide_eq_true_eq] at hok
   obtain ⟨⟨hs0, hoke⟩, hte⟩ := hok
   cases hte0 : tys[e]? with
   | none => rw [hte0] at hte; cases hte
   | some te =>
   rw [hte0] at hte
   simp only [Bool.and_eq_true, beq_iff_eq, Bool.or_eq_true] at hte
   have hce : P.cellsOf e = s := by simp [Program.cellsOf, hie, hise]
   simp only [ht, hte0]
   rcases DataW.trod_slice hu h with ⟨rfl, _⟩ | ⟨a, len, cap, elems, rest, fuel', _, rfl, _, hb, hl, hm, hel, hall, _⟩
   ·exact ⟨[.sl []], .one (.slnil _), [], rfl, Nat.zero_le _, by simp⟩
   ·rw [hce] at hall
    have H1 : ∀ i, i < len → ∃ q : List PV × List Value, w.cells? base (a.add (i * s)) s = some q.2 ∧ CellsDen w q.1 q.2 ∧ WT tys n e q.1 := by
     intro i hi
     have := hall i hi
     rw [List.getElem?_eq_getElem (by omega)] at this
     obtain ⟨cs', h1, h2⟩ := Option.bind_eq_some_iff.1 this
     obtain ⟨ps, h3, h4⟩ := read_den hT n e fuel' cs' _ hoke h2
     exact ⟨(ps, cs'), h1, h3, h4⟩
    let g : Nat → List PV × List Value := fun i => if h : i < len then Classical.choose (H1 i h) else ([], [])
    have hg : ∀ i, i < len → w.cells? base (a.add (i * s)) s = some (g i).2 ∧ CellsDen w (g i).1 (g i).2 ∧ WT tys n e (g i).1 := by
     intro i hi
     have := Classical.choose_spec (H1 i hi)
     simpa [g, hi] using this
    have hlen : ∀ i, i < len → (g i).1.length = s := fun i hi => by
     rw [(hg i hi).2.1.1]; exact (World.cells?_some (hg i hi).1).2.1
    have hmk : ∀ i, i < len → (mkE te.tk.agg (g i).1).cells = (g i).1 := by
     intro i hi
     unfold mkE
     split
     ·rfl
     ·rename_i hagg
      have h1 : s = 1 := by
       rcases hte.2 with h | h
       ·rw [h] at hagg; cases hagg
       ·omega
      have hl1 := hlen i hi
      rw [h1] at hl1
      obtain ⟨c, hc⟩ : ∃ c, (g i).1 = [c] := by
       match hgi : (g i).1, hl1 with
       | [c], _ => exact ⟨c, rfl⟩
      rw [hc]
      have hwt := (hg i hi).2.2
      rw [hc] at hwt
      show c.cells = [c]
      cases n with
      | zero => cases hwt
      | succ n =>
       unfold WT at hwt
       rw [hte0] at hwt
       obtain ⟨tk, sz, by_, zz⟩ := te
       cases tk <;> simp only at hwt hagg
       case bool => obtain ⟨b, hb⟩ := hwt; cases hb; rfl
       case int k => obtain ⟨m, hm, _⟩ := hwt; cases hm; rfl
       case str => obtain ⟨m, hm, _⟩ := hwt; cases hm; rfl
       case sl e2 s2 b2 => obtain ⟨m, hm, _⟩ := hwt; cases hm; rfl
       case strct l2 => cases hagg
       case arr m2 e2 s2 => cases hagg
    have hspot : len ≠ 0 → a.spot = none ∧ a.block < w.heap.size := by
     intro h0
     have h1 := (hg 0 (by omega)).1
     rw [Nat.zero_mul] at h1
     obtain ⟨_, h2, h3⟩ := World.cells?_some h1
     have h4 := h3 0 hs0
     have h5 : (a.add 0).add 0 = a := rfl
     rw [h5, List.getElem?_eq_getElem (by omega)] at h4
     unfold World.cell? at h4
     split at h4
     ·rename_i c0 T0 fr0 hh
      refine ⟨?_, (Array.getElem?_eq_some_iff.1 hh).1⟩
      split at h4
      ·cases h4
      ·rename_i hsp; simpa using hsp
     ·cases h4
    refine ⟨[.sl ((List.range len).map fun i => mkE te.tk.agg (g i).1)], .one ?_, _, rfl, by rw [List.length_map, List.length_range]; exact Nat.le_trans hl hm, ?_⟩
    ·have hd := Den.sl (A := oldB w) (w := w) [] s ((List.range len).map fun i => mkE te.tk.agg (g i).1) a cap (fun i j => (g i).2.getD j undef) ?_ (by simpa using hl) hm ?_ ?_ ?_
     ·simpa using hd
     ·intro hne
      have : len ≠ 0 := by rintro rfl; exact hne rfl
      exact ⟨(hspot this).2, (hspot this).1⟩
     ·intro y hy
      obtain ⟨i, hi, rfl⟩ := List.mem_map.1 hy
      rw [hmk i (List.mem_range.1 hi)]
      exact hlen i (List.mem_range.1 hi)
     ·intro i y j c hy hc
      rw [List.getElem?_map] at hy
      have hi : i < len := by
       rcases Nat.lt_or_ge i len with h | h
       ·exact h
       ·rw [List.getElem?_eq_none (by simpa using h)] at hy; cases hy
      rw [List.getElem?_range hi] at hy
      cases hy
      rw [hmk i hi] at hc
      have hj : j < s := by rw [← hlen i hi]; exact (List.getElem?_eq_some_iff.1 hc).1
      obtain ⟨_, h2, h3⟩ := World.cells?_some (hg i hi).1
      have h4 := h3 j hj
      have hsp := (hspot (by omega)).1
      rw [add_at a _ hsp, add_at _ _ rfl] at h4
      simp only at h4
      rw [Nat.add_assoc] at h4
      rw [h4, List.getD, List.getElem?_eq_getElem (by omega)]
      rfl
     ·intro i y j c hy hc
      rw [List.getElem?_map] at hy
      have hi : i < len := by
       rcases Nat.lt_or_ge i len with h | h
       ·exact h
       ·rw [List.getElem?_eq_none (by simpa using h)] at hy; cases hy
      rw [List.getElem?_range hi] at hy
      cases hy
      rw [hmk i hi] at hc
      have hd := (hg i hi).2.1
      have hj : j < (g i).2.length := by rw [← hd.1]; exact (List.getElem?_eq_some_iff.1 hc).1
      exact hd.2 j c _ hc (by rw [List.getD, List.getElem?_eq_getElem hj]; rfl)
    ·intro y hy
     obtain ⟨i, hi, rfl⟩ := List.mem_map.1 hy
     have hi' := List.mem_range.1 hi
     refine ⟨by rw [hmk i hi']; exact hlen i hi', by rw [hmk i hi']; exact (hg i hi').2.2, ?_⟩
     show mkE te.tk.agg (g i).1 = mkE te.tk.agg (mkE te.tk.agg (g i).1).cells
     rw [hmk i hi']
  ·rename_i m e s z z1 z2 ht
   obtain ⟨i, td, hi1, hu, htk, hsz, _⟩ := tyOf_spec (hT _ _ ht)
   obtain ⟨rfl, hse⟩ := tkOf_arr htk
   simp only [Bool.and_eq_true, beq_iff_eq] at hok
   obtain ⟨hz, hoke⟩ := hok
   obtain ⟨xs, fuel', hf, _, hlen, hxl, hel⟩ := DataW.trod_array hu h
   have hcl : P.cellsOf t = z := by
    have : z = i.size := hsz
    simp [Program.cellsOf, hi1, this]
   have hce : P.cellsOf e = s := by
    unfold szOf at hse
    simp [Program.cellsOf, hse]
   rw [hce] at hel
   rw [hcl] at hlen
   simp only [ht]
   have H1 : ∀ i, i < m → ∃ ps, CellsDen w ps ((cs.drop (i * s)).take s) ∧ WT tys n e ps := by
    intro i hi
    have := hel i hi
    rw [List.getElem?_eq_getElem (by omega)] at this
    obtain ⟨ps, h3, h4⟩ := read_den hT n e fuel' _ _ hoke this
    exact ⟨ps, h3, h4⟩
   -- the elements, one behind the other
   have H2 : ∀ k, k ≤ m → ∃ ps, CellsDen w ps (cs.take (k * s)) ∧ ∀ i, i < k → WT tys n e ((ps.drop (i * s)).take s) := by
    intro k
    induction k with
    | zero => intro _; exact ⟨[], ⟨by simp, by simp⟩, fun i hi => by omega⟩
    | succ k ih =>
     intro hk
     obtain ⟨ps, h1, h2⟩ := ih (by omega)
     obtain ⟨qs, h3, h4⟩ := H1 k (by omega)
     have hle : (k + 1) * s ≤ cs.length := by rw [hlen, hz]; exact Nat.mul_le_mul_right _ hk
     have hkl : k * s + s = (k + 1) * s := by rw [Nat.add_mul]; omega
     have hpl : ps.length = k * s := by rw [h1.1]; simp; omega
     have hql : qs.length = s := by rw [h3.1]; simp; omega
     refine ⟨ps ++ qs, ?_, fun i hi => ?_⟩
     ·have : cs.take ((k + 1) * s) = cs.take (k * s) ++ (cs.drop (k * s)).take s := by rw [← hkl, List.take_add]
      rw [this]
      exact h1.append h3
     ·by_cases hik : i < k
      ·have h5 : i * s + s ≤ k * s := by rw [show i * s + s = (i + 1) * s by rw [Nat.add_mul]; omega]; exact Nat.mul_le_mul_right _ hik
       have := h2 i hik
       rw [List.drop_append_of_le_length (by omega), List.take_append_of_le_length (by simp; omega)]
       exact this
      ·obtain rfl : i = k := by omega
       rw [← hpl, List.drop_left, ← hql, List.take_length]
       exact h4
   obtain ⟨ps, h1, h2⟩ := H2 m (Nat.le_refl _)
   rw [← hz, ← hlen, List.take_length] at h1
   exact ⟨ps, h1, by rw [h1.1]; exact hlen, h2⟩
  ·cases hok
end
end Go.Pw
namespace Go.Pw
open Go Go.RowKit Go.WideShapes
section
variable {P : Program} {tys : List TI} {H : Type} {enc : TypeId × Value → H} {W : World} {base : Nat} {sp : Nat → Bool}
def aggT (tys : List TI) (t : TypeId) : Bool := ((tys[t]?).map fun ti => ti.tk.agg).getD false
theorem read_arg (hT : Tys P tys) {n : Nat} {t : TypeId} {v : Value} {d : DataW H} {p : List MemPlace} {r : Reach} {b0 : Nat} {held : Bool} (hok : rdOk tys n t = true) (hval : Value.okWide P W r b0 t v) (h : DataW.Trod enc P W base sp held t v d p) :
  ∃ cells, WT tys n t cells ∧ Den (oldB W) W [] (mkE (aggT tys t) cells) v := by
 obtain ⟨fuel, h⟩ := h
 obtain ⟨ps, hd, hw⟩ := read_den hT n t fuel _ _ hok h
 refine ⟨ps, hw, ?_⟩
 have one : ∀ u : Value, v = u → u.cells = #[u] → aggT tys t = false → Den (oldB W) W [] (mkE (aggT tys t) ps) v := by
  intro u hu hc hag
  subst hu
  rw [hc] at hd
  obtain ⟨c, rfl⟩ : ∃ c, ps = [c] := by
   match ps, hd.1 with
   | [c], _ => exact ⟨c, rfl⟩
  rw [hag]
  exact hd.2 0 c v rfl rfl
 cases n with
 | zero => cases hok
 | succ n =>
  unfold rdOk at hok
  split at hok
  ·rename_i z1 z2 ht
   obtain ⟨i, td, hi1, hu, htk, _⟩ := tyOf_spec (hT _ _ ht)
   have : td = .bool := by
    unfold tkOf at htk
    split at htk <;> first | rfl | (cases htk; done) | (split at htk <;> cases htk)
   subst this
   obtain ⟨b, hb⟩ := okWide_bool hu hval
   exact one _ hb rfl (by simp [aggT, ht, TK.agg])
  ·rename_i k z1 z2 ht
   obtain ⟨i, td, hi1, hu, htk, _⟩ := tyOf_spec (hT _ _ ht)
   obtain rfl := tkOf_int htk
   obtain ⟨b, hb⟩ := okWide_int hu hval
   exact one _ hb rfl (by simp [aggT, ht, TK.agg])
  ·rename_i z1 z2 ht
   obtain ⟨i, td, hi1, hu, htk, _⟩ := tyOf_spec (hT _ _ ht)
   obtain rfl := tkOf_str htk
   obtain ⟨b, hb⟩ := okWide_string hu hval
   exact one _ hb rfl (by simp [aggT, ht, TK.agg])
  ·rename_i l s z1 z2 ht
   obtain ⟨i, td, hi1, hu, htk, _⟩ := tyOf_spec (hT _ _ ht)
   obtain ⟨fs, rfl, _⟩ := tkOf_strct htk
   obtain ⟨cs, rfl, _⟩ := okWide_struct hu hval
   have hag : aggT tys t = true := by simp [aggT, ht, TK.agg]
   rw [hag]
   exact .agg [] ps cs.toList hd.1 fun j c u hc hu => hd.2 j c u hc hu
  ·rename_i e s b z1 z2 ht
   obtain ⟨i, td, hi1, hu, htk, _⟩ := tyOf_spec (hT _ _ ht)
   obtain ⟨rfl, _⟩ := tkOf_sl htk
   obtain ⟨a, l, c, hb⟩ := okWide_slice hu hval
   exact one _ hb rfl (by simp [aggT, ht, TK.agg])
  ·rename_i m e s z z1 z2 ht
   obtain ⟨i, td, hi1, hu, htk, _⟩ := tyOf_spec (hT _ _ ht)
   obtain ⟨rfl, _⟩ := tkOf_arr htk
   obtain ⟨cs, rfl⟩ : ∃ cs, v = .agg cs := by
    simp only [Value.okWide, hu] at hval
    obtain ⟨cs, h1, _⟩ := hval
    exact ⟨cs, h1⟩
   have hag : aggT tys t = true := by simp [aggT, ht, TK.agg]
   rw [hag]
   exact .agg [] ps cs.toList hd.1 fun j c u hc hu => hd.2 j c u hc hu
  ·cases hok
theorem inv_start (n : Nat) (hn : n ≤ W.heap.size) : Inv ⟨n, fun b => W.heap[b]?⟩ (base0 (oldB W) W [] []) (oldB W) W [] [] := by
 have nolive : ∀ i, ¬ liveAt [] i := fun i ⟨o, h, _⟩ => by simp at h
 refine ⟨rfl, fun i j b h1 => by simp at h1, fun i b o h1 => by simp at h1, fun i b h1 => by simp at h1, fun i b h1 => by simp at h1, fun b h => h, fun b h => .inl h, fun b h => h, Nat.le_refl _, rfl, rfl, rfl, fun _ _ _ => rfl, fun b hb => ⟨rfl, fun ⟨i, _, hl⟩ => nolive i hl, Nat.lt_of_lt_of_le hb hn, Nat.lt_of_lt_of_le hb hn⟩, fun i b _ h => by simp [base0] at h, fun b hb => ⟨fun ⟨i, _, hl⟩ => nolive i hl, hb⟩⟩
theorem calls_of {f : FuncId} {ps : List PV} {vals : List Value} {R : PV → Prop} (n : Nat) (hn : n ≤ W.heap.size) (hc : PFun P ⟨n, fun b => W.heap[b]?⟩ f ps R) (hl : ps.length = vals.length) (hd : ∀ (i : Nat) p v, ps[i]? = some p → vals[i]? = some v → Den (oldB W) W [] p v) :
  Calls P f vals.toArray W fun e W' => ∃ r v A', e = .returned v ∧ R r ∧ Den A' W' [] r v ∧ Below W.heap.size W W' := by
 refine (hc (oldB W) W [] vals (inv_start n hn) ⟨hl, hd⟩).mono ?_
 rintro e W' ⟨r, v, st', A', β', rfl, ⟨hR, rfl⟩, hden, hi⟩
 have hb0 : β' = [] := by have := hi.len; cases β' with | nil => rfl | cons x l => simp at this
 subst hb0
 refine ⟨r, v, A', rfl, hR, hden, ⟨hi.os, hi.tape, hi.output, hi.size, fun k hk => hi.keep k hk fun ⟨i, h, _⟩ => by simp at h⟩⟩
theorem trodAll_below (hl : laidOutB P = true) {W' : World} (hb : Below W.heap.size W W') : ∀ {ts : List TypeId} {vs : List Value} {ds : List (DataW H)} {p : List MemPlace}, (ts.all fun t => P.readableRec t && decide (t < P.types.size)) = true →
  DataW.TrodAll enc P W 0 (fun _ => true) true ts vs ds p → (∀ x ∈ p, x.block < W.heap.size) → DataW.TrodAll enc P W' 0 (fun b => decide (b < W.heap.size)) true ts vs ds p
 | [], [], [], _, _, h, _ => h
 | t :: ts, v :: vs, d :: ds, _, ht, ⟨p, q, h1, h2, e⟩, hlt => by
  simp only [List.all_cons, Bool.and_eq_true, decide_eq_true_eq] at ht
  subst e
  exact ⟨p, q, Below.trod hl ht.1.1 ht.1.2 h1 hb (fun x hx => hlt x (List.mem_append_left _ hx)), trodAll_below hl hb (by simpa using ht.2) h2 (fun x hx => hlt x (List.mem_append_right _ hx)), rfl⟩
end
end Go.Pw
namespace Go.Pw
open Go Go.RowKit Go.WideShapes
theorem handed_shapedX {H : Type} {enc : TypeId × Value → H} {a : Assume} {C : Checked} {os : Os} {f : FuncId} {fn : Func} {s : ChangeSpec} {conds : List PathCond} {apart fresh handsOn again : Bool} {X : World → Array Value → Prop}
  (hX : ∀ (w w' : World) (args : Array Value), w.heap = w'.heap → X w args → X w' args)
  (own : ownKnob C.prog.godebug = none) (started : os.Started) (noInit : C.prog.inits.idxOf? f = none) (hfn : C.prog.funcs[f]? = some fn)
  (witness : ∃ (w : World) (tape : Tape) (i : Input), w.os = os ∧ (w.forCall tape i).Shaped C.prog ∧ i.vars = [] ∧ Input.okWide C.prog (w.forCall tape i) .any w.heap.size f i ∧
   ((s.pre enc C.prog fn conds apart (w.forCall tape i).memory i.args ∧ X (w.forCall tape i).memory i.args) ∧ sizedMet enc C.prog fn (OpenSpec.ofChange s) apart (w.forCall tape i).memory i.args) ∧ a.holds C.prog (lone (Frame.enter C.prog f i.args .normal) [] (w.forCall tape i)))
  (contract : ∀ (W : World) (base : Nat) (args : Array Value) (ds gs : List (DataW H)) (before : List MemPlace),
   (∀ (j : Nat) t v, fn.params[j]? = some t → args[j]? = some v → Value.okWide C.prog W .any base t v) →
   DataW.Whole enc C.prog fn.params.toList s.vars apart W args.toList ds gs before → W.ShapedOpen C.prog → X W args →
   Calls C.prog f args W fun e W' => ∃ v, e = .returned v ∧ s.post enc C.prog fn apart fresh handsOn again W args v W') :
  ReturnsInHanded a C os f .any (fun w args => (s.pre enc C.prog fn conds apart w args ∧ X w args) ∧ sizedMet enc C.prog fn (OpenSpec.ofChange s) apart w args) (s.post enc C.prog fn apart fresh handsOn again) := by
 refine returnsInHanded_of_calls own started noInit witness ?_
 intro w tape i _ hsh _ hok hpre hholds
 obtain ⟨_, _, _, fn', hfn', _, _, _, _, hval⟩ := hok
 obtain rfl : fn' = fn := Option.some.inj (hfn'.symm.trans hfn)
 obtain ⟨⟨⟨ds, gs, before, hw, hc⟩, hx⟩, hz⟩ := hpre
 refine (contract (w.forCall tape i) w.heap.size i.args ds gs before hval (DataW.Whole.of_heap (w' := w.forCall tape i) (by rfl) hw) hsh (hX _ _ _ (by rfl) hx)).mono fun e W' ⟨v, he, hp⟩ => ?_
 subst he
 exact ChangeSpec.post_blind hp
end Go.Pw
