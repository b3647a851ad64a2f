/-
 What comes in as data reads as pure values; the sizes of the slices.
-/
import Derived.Test.YtkaobkjcjodffaaGreatDoorSPwFork
namespace Go.Pw
open Go Go.RowKit Go.WideShapes
def WR (tys : List TI) (R : Nat) : Nat → TypeId → List PV → Prop
 | 0, _, _ => True
 | n + 1, t, ps => match tys[t]? with
  | some ⟨.strct l, _, _, _⟩ => ∀ x ∈ l, WR tys R n x.2.2.2 ((ps.drop x.1).take x.2.1)
  | some ⟨.sl e _ b, _, _, _⟩ => ∃ xs : List PV, ps = [.sl xs] ∧ xs.length * b ≤ R ∧ ∀ x ∈ xs, WR tys R n e x.cells
  | _ => True
section
variable {P : Program} {tys : List TI} {H : Type} {enc : TypeId × Value → H} {w : World} {base : Nat} {spare : Nat → Bool} {held : Bool}
theorem weightsEach_all {f : Nat → Bool} : ∀ {ts : List TypeId} {ds : List (DataW H)}, (DataW.weightsEach P ts ds).all f = true → ∀ (j : Nat) t d, ts[j]? = some t → ds[j]? = some d → (d.weights P t).all f = true
 | t :: ts, d :: ds, h, 0, _, _, h1, h2 => by
  simp only [DataW.weightsEach, List.all_append, Bool.and_eq_true] at h
  cases h1; cases h2
  exact h.1
 | t :: ts, d :: ds, h, j + 1, _, _, h1, h2 => by
  simp only [DataW.weightsEach, List.all_append, Bool.and_eq_true] at h
  exact weightsEach_all h.2 j _ _ (by simpa using h1) (by simpa using h2)
 | [], _, _, _, _, _, h1, _ => by simp at h1
 | _ :: _, [], _, _, _, _, _, h2 => by simp at h2
theorem weightsAll_all {f : Nat → Bool} {t : TypeId} : ∀ {ds : List (DataW H)}, (DataW.weightsAll P t ds).all f = true → ∀ (j : Nat) d, ds[j]? = some d → (d.weights P t).all f = true
 | d :: ds, h, 0, _, h2 => by
  simp only [DataW.weightsAll, List.all_append, Bool.and_eq_true] at h
  cases h2
  exact h.1
 | d :: ds, h, j + 1, _, h2 => by
  simp only [DataW.weightsAll, List.all_append, Bool.and_eq_true] at h
  exact weightsAll_all h.2 j _ (by simpa using h2)
 | [], _, _, _, h2 => by simp at h2
theorem read_fieldsW {n fuel R : Nat} (cs : List Value) (hR : ∀ t c x, rdOk tys n t = true → DataW.trod enc P w base spare held fuel t c = some x → (x.1.weights P t).all (· ≤ R) = true → ∃ ps, CellsDen w ps c ∧ WT tys n t ps ∧ WR tys R n t ps) :
  ∀ (fs : List Field) (l : List (Nat × Nat × Bool × TypeId)) (off fin : Nat), fldsOf P fs = some l → laidL l off = some fin → cs.length = fin → off ≤ fin → (l.all fun x => rdOk tys n x.2.2.2) = true →
   (∀ f ∈ fs, ∃ x, DataW.trod enc P w base spare held fuel f.type ((cs.drop f.offset).take (P.cellsOf f.type)) = some x ∧ (x.1.weights P f.type).all (· ≤ R) = true) →
   ∃ ps, CellsDen w ps (cs.drop off) ∧ ∀ x ∈ l, off ≤ x.1 ∧ WT tys n x.2.2.2 ((ps.drop (x.1 - off)).take x.2.1) ∧ WR tys R n x.2.2.2 ((ps.drop (x.1 - off)).take x.2.1)
 | [], l, off, fin, hl, hlay, hcs, hle, _, _ => by
  cases hl
  simp only [laidL, Option.some.injEq] at hlay
  subst hlay
  exact ⟨[], ⟨by simp [hcs], by simp⟩, by simp⟩
 | f :: fs, l, off, fin, hl, hlay, hcs, hle, hok, hall => by
  unfold fldsOf at hl
  split at hl
  ·rename_i x xs hx hxs
   cases hl
   unfold fldOf at hx
   split at hx
   ·rename_i s d hs hd
    cases hx
    simp only [laidL] at hlay
    split at hlay
    ·rename_i hoff
     simp only [List.all_cons, Bool.and_eq_true] at hok
     obtain ⟨y, hy, hyw⟩ := hall f (List.mem_cons_self ..)
     have hcell : P.cellsOf f.type = s := by
      unfold szOf at hs
      simp [Program.cellsOf, hs]
     rw [hcell, hoff] at hy
     obtain ⟨p1, hd1, hw1, hr1⟩ := hR _ _ _ hok.1 hy hyw
     have hmono : ∀ (l : List (Nat × Nat × Bool × TypeId)) (a b : Nat), laidL l a = some b → a ≤ b := by
      intro l
      induction l with
      | nil => intro a b h; simp [laidL] at h; omega
      | cons z l ih =>
       intro a b h
       obtain ⟨o, s, g, u⟩ := z
       simp only [laidL] at h
       split at h
       ·have := ih _ _ h; omega
       ·cases h
     have hle2 := hmono _ _ _ hlay
     obtain ⟨p2, hd2, hw2⟩ := read_fieldsW cs hR fs xs (off + s) fin hxs hlay hcs hle2 hok.2 (fun g hg => hall g (List.mem_cons_of_mem _ hg))
     have hl1 : p1.length = s := by rw [hd1.1]; simp; omega
     refine ⟨p1 ++ p2, ?_, ?_⟩
     ·rw [drop_take_split cs off s]
      exact hd1.append hd2
     ·intro z hz
      rcases List.mem_cons.1 hz with rfl | hz
      ·refine ⟨by omega, ?_⟩
       show WT tys n f.type (((p1 ++ p2).drop (f.offset - off)).take s) ∧ WR tys R n f.type (((p1 ++ p2).drop (f.offset - off)).take s)
       rw [hoff, Nat.sub_self, List.drop_zero, ← hl1, List.take_left]
       exact ⟨hw1, hr1⟩
      ·obtain ⟨g1, g2⟩ := hw2 z hz
       refine ⟨by omega, ?_⟩
       rw [List.drop_append, show (p1.drop (z.1 - off)) = [] from List.drop_of_length_le (by omega), List.nil_append, hl1, show z.1 - off - s = z.1 - (off + s) by omega]
       exact g2
    ·cases hlay
   ·cases hx
  ·cases hl
theorem read_denW (hT : Tys P tys) (R : Nat) : ∀ (n : Nat) (t : TypeId) (fuel : Nat) (cs : List Value) (x : DataW H × List MemPlace), rdOk tys n t = true → DataW.trod enc P w base spare held fuel t cs = some x → (x.1.weights P t).all (· ≤ R) = true → ∃ ps, CellsDen w ps cs ∧ WT tys n t ps ∧ WR tys R n t ps
 | 0, t, fuel, cs, x, hok, _, _ => by cases hok
 | n + 1, t, fuel, cs, x, hok, h, hwt => by
  unfold rdOk at hok
  unfold WT WR
  split at hok
  ·rename_i z1 z2 ht
   obtain ⟨i, td, hi1, hu, htk, _⟩ := tyOf_spec (hT _ _ ht)
   have : td = .bool := by
    unfold tkOf at htk
    split at htk <;> first | rfl | (cases htk; done) | (split at htk <;> cases htk)
   subst this
   obtain ⟨b, rfl, _⟩ := DataW.trod_bool hu h
   simp only [ht]
   exact ⟨[.bool b], .one (.bool ..), ⟨b, rfl⟩, trivial⟩
  ·rename_i k z1 z2 ht
   obtain ⟨i, td, hi1, hu, htk, _⟩ := tyOf_spec (hT _ _ ht)
   obtain rfl := tkOf_int htk
   obtain ⟨m, rfl, _, hwf⟩ := DataW.trod_int hu h
   simp only [ht]
   exact ⟨[.int k m], .one (.int ..), ⟨m, rfl, hwf⟩, trivial⟩
  ·rename_i z1 z2 ht
   obtain ⟨i, td, hi1, hu, htk, _⟩ := tyOf_spec (hT _ _ ht)
   obtain rfl := tkOf_str htk
   obtain ⟨s, rfl, _, hl⟩ := DataW.trod_string hu h
   simp only [ht]
   refine ⟨[.str s.data.toList], .one ?_, ⟨s.data.toList, rfl, by rw [Array.length_toList]; exact hl⟩, trivial⟩
   exact .str [] s.data.toList
  ·rename_i l s z1 z2 ht
   obtain ⟨i, td, hi1, hu, htk, hsz, _⟩ := tyOf_spec (hT _ _ ht)
   obtain ⟨fs, rfl, hfs⟩ := tkOf_strct htk
   simp only [Bool.and_eq_true, beq_iff_eq] at hok
   obtain ⟨xs, fuel', rfl, rfl, hlen, hxl, hfld⟩ := DataW.trod_struct hu h
   have hcl : P.cellsOf t = s := by
    have : s = i.size := hsz
    simp [Program.cellsOf, hi1, this]
   rw [hcl] at hlen
   simp only [DataW.weights, hu] at hwt
   obtain ⟨ps, hd, hw⟩ := read_fieldsW cs (fun t c x h1 h2 h3 => read_denW hT R n t fuel' c x h1 h2 h3) fs.toList l 0 s hfs hok.1 hlen (Nat.zero_le _) hok.2 (fun f hf => by
    obtain ⟨j, hj⟩ := List.mem_iff_getElem?.1 hf
    have hj' : fs[j]? = some f := by simpa using hj
    have := hfld j f hj'
    have hjl : j < xs.length := by rw [hxl]; exact (Array.getElem?_eq_some_iff.1 hj').1
    rw [List.getElem?_eq_getElem hjl] at this
    exact ⟨_, this, weightsEach_all hwt j f.type _ (by rw [List.getElem?_map, hj]; rfl) (by rw [List.getElem?_map, List.getElem?_eq_getElem hjl]; rfl)⟩)
   simp only [ht]
   refine ⟨ps, by simpa using hd, ⟨by rw [hd.1]; simpa using hlen, fun y hy => ?_⟩, fun y hy => ?_⟩
   ·have := (hw y hy).2.1
    rwa [Nat.sub_zero] at this
   ·have := (hw y hy).2.2
    rwa [Nat.sub_zero] at this
  ·rename_i e s b z1 z2 ht
   obtain ⟨i, td, hi1, hu, htk, _⟩ := tyOf_spec (hT _ _ ht)
   obtain ⟨rfl, ie, hie, hise, hib⟩ := tkOf_sl htk
   simp only [Bool.and_eq_true, decide_eq_true_eq] at hok
   obtain ⟨⟨hs0, hoke⟩, hte⟩ := hok
   cases hte0 : tys[e]? with
   | none => rw [hte0] at hte; cases hte
   | some te =>
   rw [hte0] at hte
   simp only [Bool.and_eq_true, beq_iff_eq, Bool.or_eq_true] at hte
   have hce : P.cellsOf e = s := by simp [Program.cellsOf, hie, hise]
   simp only [ht, hte0]
   rcases DataW.trod_slice hu h with ⟨rfl, _⟩ | ⟨a, len, cap, elems, rest, fuel', _, rfl, rfl, hb, hl, hm, hel, hall, _⟩
   ·exact ⟨[.sl []], .one (.slnil _), ⟨[], rfl, Nat.zero_le _, by simp⟩, [], rfl, by simp, by simp⟩
   ·rw [hce] at hall
    simp only [DataW.weights, hu, List.all_cons, Bool.and_eq_true, decide_eq_true_eq, List.length_map, List.all_append] at hwt
    have hby : P.bytesOf e = b := by simp [Program.bytesOf, hie, hib]
    have H1 : ∀ i, i < len → ∃ q : List PV × List Value, w.cells? base (a.add (i * s)) s = some q.2 ∧ CellsDen w q.1 q.2 ∧ WT tys n e q.1 ∧ WR tys R n e q.1 := by
     intro i hi
     have := hall i hi
     rw [List.getElem?_eq_getElem (by omega)] at this
     obtain ⟨cs', h1, h2⟩ := Option.bind_eq_some_iff.1 this
     obtain ⟨ps, h3, h4, h5⟩ := read_denW hT R n e fuel' cs' _ hoke h2 (weightsAll_all hwt.2.1 i _ (by rw [List.getElem?_map, List.getElem?_eq_getElem (show i < elems.length by omega)]; rfl))
     exact ⟨(ps, cs'), h1, h3, h4, h5⟩
    let g : Nat → List PV × List Value := fun i => if h : i < len then Classical.choose (H1 i h) else ([], [])
    have hg : ∀ i, i < len → w.cells? base (a.add (i * s)) s = some (g i).2 ∧ CellsDen w (g i).1 (g i).2 ∧ WT tys n e (g i).1 ∧ WR tys R n e (g i).1 := by
     intro i hi
     have := Classical.choose_spec (H1 i hi)
     simpa [g, hi] using this
    have hlen : ∀ i, i < len → (g i).1.length = s := fun i hi => by
     rw [(hg i hi).2.1.1]; exact (World.cells?_some (hg i hi).1).2.1
    have hmk : ∀ i, i < len → (mkE te.tk.agg (g i).1).cells = (g i).1 := by
     intro i hi
     unfold mkE
     split
     ·rfl
     ·rename_i hagg
      have h1 : s = 1 := by
       rcases hte.2 with h | h
       ·rw [h] at hagg; cases hagg
       ·omega
      have hl1 := hlen i hi
      rw [h1] at hl1
      obtain ⟨c, hc⟩ : ∃ c, (g i).1 = [c] := by
       match hgi : (g i).1, hl1 with
       | [c], _ => exact ⟨c, rfl⟩
      rw [hc]
      have hwt := (hg i hi).2.2.1
      rw [hc] at hwt
      show c.cells = [c]
      cases n with
      | zero => cases hwt
      | succ n =>
       unfold WT at hwt
       rw [hte0] at hwt
       obtain ⟨tk, sz, by_, zz⟩ := te
       cases tk <;> simp only at hwt hagg
       case bool => obtain ⟨b, hb⟩ := hwt; cases hb; rfl
       case int k => obtain ⟨m, hm, _⟩ := hwt; cases hm; rfl
       case str => obtain ⟨m, hm, _⟩ := hwt; cases hm; rfl
       case sl e2 s2 b2 => obtain ⟨m, hm, _⟩ := hwt; cases hm; rfl
       case strct l2 => cases hagg
    have hspot : len ≠ 0 → a.spot = none ∧ a.block < w.heap.size := by
     intro h0
     have h1 := (hg 0 (by omega)).1
     rw [Nat.zero_mul] at h1
     obtain ⟨_, h2, h3⟩ := World.cells?_some h1
     have h4 := h3 0 hs0
     have h5 : (a.add 0).add 0 = a := rfl
     rw [h5, List.getElem?_eq_getElem (by omega)] at h4
     unfold World.cell? at h4
     split at h4
     ·rename_i c0 T0 fr0 hh
      refine ⟨?_, (Array.getElem?_eq_some_iff.1 hh).1⟩
      split at h4
      ·cases h4
      ·rename_i hsp; simpa using hsp
     ·cases h4
    refine ⟨[.sl ((List.range len).map fun i => mkE te.tk.agg (g i).1)], .one ?_, ⟨_, rfl, by rw [List.length_map, List.length_range]; exact Nat.le_trans hl hm, ?_⟩, _, rfl, ?_, ?_⟩
    ·have hd := Den.sl (A := oldB w) (w := w) [] s ((List.range len).map fun i => mkE te.tk.agg (g i).1) a cap (fun i j => (g i).2.getD j undef) ?_ (by simpa using hl) hm ?_ ?_ ?_
     ·simpa using hd
     ·intro hne
      have : len ≠ 0 := by rintro rfl; exact hne rfl
      exact ⟨(hspot this).2, (hspot this).1⟩
     ·intro y hy
      obtain ⟨i, hi, rfl⟩ := List.mem_map.1 hy
      rw [hmk i (List.mem_range.1 hi)]
      exact hlen i (List.mem_range.1 hi)
     ·intro i y j c hy hc
      rw [List.getElem?_map] at hy
      have hi : i < len := by
       rcases Nat.lt_or_ge i len with h | h
       ·exact h
       ·rw [List.getElem?_eq_none (by simpa using h)] at hy; cases hy
      rw [List.getElem?_range hi] at hy
      cases hy
      rw [hmk i hi] at hc
      have hj : j < s := by rw [← hlen i hi]; exact (List.getElem?_eq_some_iff.1 hc).1
      obtain ⟨_, h2, h3⟩ := World.cells?_some (hg i hi).1
      have h4 := h3 j hj
      have hsp := (hspot (by omega)).1
      rw [add_at a _ hsp, add_at _ _ rfl] at h4
      simp only at h4
      rw [Nat.add_assoc] at h4
      rw [h4, List.getD, List.getElem?_eq_getElem (by omega)]
      rfl
     ·intro i y j c hy hc
      rw [List.getElem?_map] at hy
      have hi : i < len := by
       rcases Nat.lt_or_ge i len with h | h
       ·exact h
       ·rw [List.getElem?_eq_none (by simpa using h)] at hy; cases hy
      rw [List.getElem?_range hi] at hy
      cases hy
      rw [hmk i hi] at hc
      have hd := (hg i hi).2.1
      have hj : j < (g i).2.length := by rw [← hd.1]; exact (List.getElem?_eq_some_iff.1 hc).1
      exact hd.2 j c _ hc (by rw [List.getD, List.getElem?_eq_getElem hj]; rfl)
    ·intro y hy
     obtain ⟨i, hi, rfl⟩ := List.mem_map.1 hy
     have hi' := List.mem_range.1 hi
     refine ⟨by rw [hmk i hi']; exact hlen i hi', by rw [hmk i hi']; exact (hg i hi').2.2.1, ?_⟩
     show mkE te.tk.agg (g i).1 = mkE te.tk.agg (mkE te.tk.agg (g i).1).cells
     rw [hmk i hi']
    ·rw [List.length_map, List.length_range]
     have h1 := hwt.1
     rw [hby, Nat.add_mul] at h1
     rw [← hel]
     omega
    ·intro y hy
     obtain ⟨i, hi, rfl⟩ := List.mem_map.1 hy
     have hi' := List.mem_range.1 hi
     rw [hmk i hi']
     exact (hg i hi').2.2.2
  ·cases hok
end
section
variable {P : Program} {tys : List TI} {H : Type} {enc : TypeId × Value → H} {W : World} {base : Nat} {sp : Nat → Bool}
theorem read_argW (hT : Tys P tys) {n : Nat} {t : TypeId} {v : Value} {d : DataW H} {p : List MemPlace} {r : Reach} {b0 : Nat} {held : Bool} (hok : rdOk tys n t = true) (hval : Value.okWide P W r b0 t v) (h : DataW.Trod enc P W base sp held t v d p) {R : Nat} (hwt : (d.weights P t).all (· ≤ R) = true) :
  ∃ cells, WT tys n t cells ∧ WR tys R n t cells ∧ Den (oldB W) W [] (mkE (aggT tys t) cells) v := by
 obtain ⟨fuel, h⟩ := h
 obtain ⟨ps, hd, hw, hr⟩ := read_denW hT R n t fuel _ _ hok h hwt
 refine ⟨ps, hw, hr, ?_⟩
 have one : ∀ u : Value, v = u → u.cells = #[u] → aggT tys t = false → Den (oldB W) W [] (mkE (aggT tys t) ps) v := by
  intro u hu hc hag
  subst hu
  rw [hc] at hd
  obtain ⟨c, rfl⟩ : ∃ c, ps = [c] := by
   match ps, hd.1 with
   | [c], _ => exact ⟨c, rfl⟩
  rw [hag]
  exact hd.2 0 c v rfl rfl
 cases n with
 | zero => cases hok
 | succ n =>
  unfold rdOk at hok
  split at hok
  ·rename_i z1 z2 ht
   obtain ⟨i, td, hi1, hu, htk, _⟩ := tyOf_spec (hT _ _ ht)
   have : td = .bool := by
    unfold tkOf at htk
    split at htk <;> first | rfl | (cases htk; done) | (split at htk <;> cases htk)
   subst this
   obtain ⟨b, hb⟩ := okWide_bool hu hval
   exact one _ hb rfl (by simp [aggT, ht, TK.agg])
  ·rename_i k z1 z2 ht
   obtain ⟨i, td, hi1, hu, htk, _⟩ := tyOf_spec (hT _ _ ht)
   obtain rfl := tkOf_int htk
   obtain ⟨b, hb⟩ := okWide_int hu hval
   exact one _ hb rfl (by simp [aggT, ht, TK.agg])
  ·rename_i z1 z2 ht
   obtain ⟨i, td, hi1, hu, htk, _⟩ := tyOf_spec (hT _ _ ht)
   obtain rfl := tkOf_str htk
   obtain ⟨b, hb⟩ := okWide_string hu hval
   exact one _ hb rfl (by simp [aggT, ht, TK.agg])
  ·rename_i l s z1 z2 ht
   obtain ⟨i, td, hi1, hu, htk, _⟩ := tyOf_spec (hT _ _ ht)
   obtain ⟨fs, rfl, _⟩ := tkOf_strct htk
   obtain ⟨cs, rfl, _⟩ := okWide_struct hu hval
   have hag : aggT tys t = true := by simp [aggT, ht, TK.agg]
   rw [hag]
   exact .agg [] ps cs.toList hd.1 fun j c u hc hu => hd.2 j c u hc hu
  ·rename_i e s b z1 z2 ht
   obtain ⟨i, td, hi1, hu, htk, _⟩ := tyOf_spec (hT _ _ ht)
   obtain ⟨rfl, _⟩ := tkOf_sl htk
   obtain ⟨a, l, c, hb⟩ := okWide_slice hu hval
   exact one _ hb rfl (by simp [aggT, ht, TK.agg])
  ·cases hok
end
theorem handed_shapedS {H : Type} {enc : TypeId × Value → H} {a : Assume} {C : Checked} {os : Os} {f : FuncId} {fn : Func} {s : ChangeSpec} {conds : List PathCond} {apart fresh handsOn again : Bool} {X : World → Array Value → Prop}
  (hX : ∀ (w w' : World) (args : Array Value), w.heap = w'.heap → X w args → X w' args)
  (own : ownKnob C.prog.godebug = none) (started : os.Started) (noInit : C.prog.inits.idxOf? f = none) (hfn : C.prog.funcs[f]? = some fn)
  (witness : ∃ (w : World) (tape : Tape) (i : Input), w.os = os ∧ (w.forCall tape i).Shaped C.prog ∧ i.vars = [] ∧ Input.okWide C.prog (w.forCall tape i) .any w.heap.size f i ∧
   ((s.pre enc C.prog fn conds apart (w.forCall tape i).memory i.args ∧ X (w.forCall tape i).memory i.args) ∧ sizedMet enc C.prog fn (OpenSpec.ofChange s) apart (w.forCall tape i).memory i.args) ∧ a.holds C.prog (lone (Frame.enter C.prog f i.args .normal) [] (w.forCall tape i)))
  (contract : ∀ (W : World) (base : Nat) (args : Array Value) (ds gs : List (DataW H)) (before : List MemPlace),
   (∀ (j : Nat) t v, fn.params[j]? = some t → args[j]? = some v → Value.okWide C.prog W .any base t v) →
   DataW.Whole enc C.prog fn.params.toList s.vars apart W args.toList ds gs before → W.ShapedOpen C.prog → X W args → (DataW.weightsEach C.prog (fn.params.toList ++ (OpenSpec.ofChange s).bare.plain.varTypes C.prog) (ds ++ gs)).all (· ≤ reachBytes) = true →
   Calls C.prog f args W fun e W' => ∃ v, e = .returned v ∧ s.post enc C.prog fn apart fresh handsOn again W args v W') :
  ReturnsInHanded a C os f .any (fun w args => (s.pre enc C.prog fn conds apart w args ∧ X w args) ∧ sizedMet enc C.prog fn (OpenSpec.ofChange s) apart w args) (s.post enc C.prog fn apart fresh handsOn again) := by
 refine returnsInHanded_of_calls own started noInit witness ?_
 intro w tape i _ hsh _ hok hpre hholds
 obtain ⟨_, _, _, fn', hfn', _, _, _, _, hval⟩ := hok
 obtain rfl : fn' = fn := Option.some.inj (hfn'.symm.trans hfn)
 obtain ⟨⟨_, hx⟩, _, ds, gs, before, hw, hwt⟩ := hpre
 refine (contract (w.forCall tape i) w.heap.size i.args ds gs before hval (DataW.Whole.of_heap (w' := w.forCall tape i) (by rfl) hw) hsh (hX _ _ _ (by rfl) hx) hwt).mono fun e W' ⟨v, he, hp⟩ => ?_
 subst he
 exact ChangeSpec.post_blind hp
end Go.Pw
