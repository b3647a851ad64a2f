/-
 slices.Sorted at the keys of a map of strings, as an answer of the reckoner's own.
 Calls whose outcomes have been reckoned before: a table.
 slices.Sorted at the keys of a map of strings: the kit's contracts, laid at this seat (the layings are printed by a program of mine), as the reckoner wants them.
-/
import Derived.Shelf.SlIter.Sorted
import Derived.Test.YtokclomhkggikaaGreatDoorVEvMap
import Derived.Shelf.SlIter.Nil
import Derived.Shelf.SortM.Plain
import Derived.Shelf.SortM.SortNone
import Derived.Test.YtokclomhkggikaaGreatDoorProg
namespace Go.Ev
open Go
noncomputable section
def insB (x : List UInt8) : List (List UInt8) → List (List UInt8)
 | [] => [x]
 | y :: l => match ltB y x with
  | true => y :: insB x l
  | false => x :: y :: l
def sortB : List (List UInt8) → List (List UInt8)
 | [] => []
 | x :: l => insB x (sortB l)
def keysB (c : Nat) : List (Nat × V × V) → Option (List (List UInt8))
 | [] => some []
 | e :: es => match e.2.1 with
  | .str s => match Nat.blt e.1 c && Nat.ble s.length 1000000 && es.all (fun f => (!Nat.beq f.1 e.1) && keyNe (.str s) f.2.1) with
   | true => match keysB c es with
    | some l => some (s :: l)
    | none => none
   | false => none
  | _ => none
def sortedOut (m : Nat) (ks : List (List UInt8)) : List Dl := match ks with
 | [] => [⟨[.nilsl], [], []⟩]
 | ks => [⟨[.sl 1 (m + 1) 0 ks.length (.ghost m)], [.dead, .vec 1 m (ks.map .str)], []⟩]
def sortedExt (fs it : FuncId) (f : FuncId) (args : List V) (os : List O) : Option R :=
 match Nat.beq f fs with
 | false => none
 | true => match args with
  | [.fn g [] [.ptr i 0]] => match Nat.beq g it with
   | false => none
   | true => match os[i]? with
    | some (.box [.map j]) => match os[j]? with
     | some (.kmap es c) => match keysB c es with
      | some ks => match Nat.ble ks.length 1000 with
       | true => some (some (sortedOut os.length (sortB ks)))
       | false => none
      | none => none
     | _ => none
    | _ => none
  | _ => none
theorem bl_lt : ∀ a b : List UInt8, Op.bytesLess a b = decide (a < b)
 | [], [] => by simp [Op.bytesLess]
 | _ :: _, [] => by simp [Op.bytesLess]
 | [], _ :: _ => by simp [Op.bytesLess]
 | x :: a, y :: b => by
  rw [Op.bytesLess, bl_lt a b, Bool.eq_iff_iff]
  simp [List.cons_lt_cons_iff]
theorem ltB_lt (a b : List UInt8) : ltB a b = decide (a < b) := by rw [ltB_eq, bl_lt]
theorem insB_perm (x : List UInt8) : ∀ l, (insB x l).Perm (x :: l)
 | [] => .refl _
 | y :: l => by
  unfold insB
  split
  ·exact ((insB_perm x l).cons y).trans (.swap x y l)
  ·exact .refl _
theorem sortB_perm : ∀ l, (sortB l).Perm l
 | [] => .refl _
 | x :: l => (insB_perm x _).trans ((sortB_perm l).cons x)
theorem insB_sorted (x : List UInt8) : ∀ l, l.Pairwise (fun a b => a ≤ b) → (insB x l).Pairwise (fun a b => a ≤ b)
 | [], _ => by simp [insB]
 | y :: l, h => by
  obtain ⟨h1, h2⟩ := List.pairwise_cons.1 h
  unfold insB
  split
  ·rename_i hlt
   rw [ltB_lt] at hlt
   have hyx : y ≤ x := List.le_of_lt (by simpa using hlt)
   refine List.pairwise_cons.2 ⟨fun z hz => ?_, insB_sorted x l h2⟩
   rcases List.mem_cons.1 ((insB_perm x l).mem_iff.1 hz) with rfl | hz
   ·exact hyx
   ·exact h1 z hz
  ·rename_i hlt
   rw [ltB_lt] at hlt
   have hxy : x ≤ y := by simpa using hlt
   refine List.pairwise_cons.2 ⟨fun z hz => ?_, h⟩
   rcases List.mem_cons.1 hz with rfl | hz
   ·exact hxy
   ·exact List.le_trans hxy (h1 z hz)
theorem sortB_sorted : ∀ l, (sortB l).Pairwise (fun a b => a ≤ b)
 | [] => .nil
 | x :: l => insB_sorted x _ (sortB_sorted l)
theorem sortB_eq {l ss : List (List UInt8)} (h : ss.Perm l) : ss.mergeSort leB = sortB l := by
 have tr : ∀ a b c : List UInt8, leB a b = true → leB b c = true → leB a c = true := fun a b c h1 h2 => by simp only [leB, decide_eq_true_eq] at *; exact List.le_trans h1 h2
 have to : ∀ a b : List UInt8, (leB a b || leB b a) = true := fun a b => by simp only [leB, Bool.or_eq_true, decide_eq_true_eq]; exact List.le_total a b
 refine List.Perm.eq_of_pairwise (le := fun a b => a ≤ b) (fun a b _ _ h1 h2 => List.le_antisymm h1 h2) ((List.pairwise_mergeSort tr to ss).imp (by simp)) (sortB_sorted l) (((List.mergeSort_perm ss leB).trans h).trans (sortB_perm l).symm)
section
variable {P : Program} {gl : List (Nat × List V)}
theorem keysB_spec {c : Nat} {kt : TypeId} (hk : P.underlying kt = some .string) : ∀ {es : List (Nat × V × V)} {ks : List (List UInt8)} {mes : List MapEntry}, keysB c es = some ks → mes.length = es.length → (∀ (j bn : Nat) k v, es[j]? = some (bn, k, v) → ∃ e, mes[j]? = some e ∧ e.born = bn ∧ keyV k = some e.key) →
  mes.map (·.key) = ks.map Go.Proofs.encStr ∧ (∀ x ∈ mes, x.born < c) ∧ mes.Pairwise (fun x y => x.born ≠ y.born) ∧ mes.Pairwise (fun x y => x.key ≠ y.key) ∧ ∀ s ∈ ks, s.length ≤ 1000000
 | [], ks, mes, h, hl, _ => by
  cases h
  have : mes = [] := List.eq_nil_of_length_eq_zero hl
  subst this
  exact ⟨rfl, fun x hx => by simp at hx, .nil, .nil, fun s hs => by simp at hs⟩
 | e :: es, ks, [], h, hl, _ => by simp at hl
 | ⟨bn, k, v⟩ :: es, ks, m :: mes, h, hl, hm => by
  unfold keysB at h
  split at h
  ·rename_i s hs
   have hs' : k = .str s := hs
   subst hs'
   split at h
   ·rename_i hb
    split at h
    ·rename_i l hl'
     cases h
     simp only [Bool.and_eq_true, List.all_eq_true, Bool.not_eq_true'] at hb
     obtain ⟨⟨b1, b2⟩, b3⟩ := hb
     obtain ⟨m', g1, g2, g3⟩ := hm 0 bn (.str s) v rfl
     simp at g1
     subst g1
     have hkey : m.key = Go.Proofs.encStr s := by
      have : keyV (.str s) = some (.string ⟨s.toArray⟩) := rfl
      rw [this] at g3
      exact (Option.some.inj g3).symm
     have hm' : ∀ (j bn : Nat) k v, es[j]? = some (bn, k, v) → ∃ e, mes[j]? = some e ∧ e.born = bn ∧ keyV k = some e.key := fun j bn k v hj => by
      simpa using hm (j + 1) bn k v (by simpa using hj)
     obtain ⟨i1, i2, i3, i4, i5⟩ := keysB_spec hk hl' (by simpa using hl) hm'
     have others : ∀ y ∈ mes, y.born ≠ m.born ∧ m.key ≠ y.key := fun y hy => by
      obtain ⟨j, hj⟩ := List.mem_iff_getElem?.1 hy
      have hlt : j < es.length := by
       have := (List.getElem?_eq_some_iff.1 hj).1
       simp at hl; omega
      obtain ⟨y', k1, k2, k3⟩ := hm' j es[j].1 es[j].2.1 es[j].2.2 (List.getElem?_eq_getElem hlt)
      rw [hj] at k1
      cases k1
      obtain ⟨c1, c2⟩ := b3 es[j] (List.getElem_mem hlt)
      refine ⟨?_, ?_⟩
      ·rw [k2, g2]; exact Nat.ne_of_beq_eq_false c1
      ·rw [hkey]; exact keyNe_ne c2 rfl k3
     refine ⟨by simp [i1, hkey], fun x hx => ?_, List.pairwise_cons.2 ⟨fun y hy => (others y hy).1.symm, i3⟩, List.pairwise_cons.2 ⟨fun y hy => (others y hy).2, i4⟩, fun t ht => ?_⟩
     ·rcases List.mem_cons.1 hx with rfl | hx
      ·rw [g2]; exact blt_iff.1 b1
      ·exact i2 x hx
     ·rcases List.mem_cons.1 ht with rfl | ht
      ·exact Nat.le_of_ble_eq_true b2
      ·exact i5 t ht
    ·cases h
   ·cases h
  ·cases h
def anyR (_ : Value) : Option (DataW Unit × List MemPlace) := some (.lit (.bool false), [])
theorem keysB_owns {c b : Nat} {kt : TypeId} (hk : P.underlying kt = some .string) {es : List (Nat × V × V)} {ks : List (List UInt8)} {mes : List MapEntry} {w : World} (h : keysB c es = some ks) (hn : ks.length ≤ 1000) (hl : mes.length = es.length) (hm : ∀ (j bn : Nat) k v, es[j]? = some (bn, k, v) → ∃ e, mes[j]? = some e ∧ e.born = bn ∧ keyV k = some e.key) (hw : w.heap[b]? = some (.map mes.toArray c)) :
  ∃ D0 : DataW Unit, w.ownsMap P kt anyR b 1000 D0 ∧ Maps.size D0 ≤ 1000 ∧ (strKeys D0).Perm ks := by
 obtain ⟨i1, i2, i3, i4, i5⟩ := keysB_spec hk h hl hm
 have hlen : mes.length = ks.length := by have := congrArg List.length i1; simpa using this
 have rd : ∀ x ∈ mes, ∃ s, x.key = Go.Proofs.encStr s ∧ WideElems.rd P kt anyR x = some (.string s, .lit (.bool false)) := fun x hx => by
  have : x.key ∈ ks.map Go.Proofs.encStr := by rw [← i1]; exact List.mem_map.2 ⟨x, hx, rfl⟩
  obtain ⟨s, hs, e⟩ := List.mem_map.1 this
  refine ⟨s, e.symm, ?_⟩
  have h5 := i5 s hs
  have : keyOf P kt (Go.Proofs.encStr s) = some (.string s) := by
   simp only [Go.Proofs.encStr, keyOf, hk, mapKey]
   rw [if_pos]
   show s.toArray.size ≤ maxLen
   simp [maxLen]; omega
  unfold WideElems.rd
  rw [← e, this]
  rfl
 have F : WideElems.Fit P kt anyR mes.toArray c := {
  size := by simp [hlen, maxLen]; omega
  stamped := (MapKept.stamped_iff _ _).2 ⟨by simpa using i2, by simpa [List.Nodup, List.pairwise_map] using i3, by simpa using i4⟩
  reads := fun x hx => by obtain ⟨s, _, h2⟩ := rd x (by simpa using hx); exact ⟨_, h2⟩ }
 refine ⟨_, ⟨mes.toArray, c, hw, F, by simp [hlen, hn], rfl⟩, ?_, ?_⟩
 ·rw [Maps.size_eq, (WideShapes.sorted_perm _).length_eq]
  simp [hlen, hn]
 ·show (List.map _ (List.foldr _ _ _)).Perm _
  refine ((WideShapes.sorted_perm _).map _).trans (List.Perm.of_eq ?_)
  rw [List.map_map]
  have e : ∀ x ∈ mes, ((fun p : Lit × DataW Unit => strOf p.1) ∘ WideElems.rg P kt anyR) x = (match x.key with | .string s => s.data.toList | _ => []) := fun x hx => by
   obtain ⟨s, h1, h2⟩ := rd x hx
   simp [WideElems.rg_of h2, strOf, h1, Go.Proofs.encStr]
  rw [List.map_congr_left (by simpa using e)]
  have := congrArg (List.map fun v : Value => match v with | .string s => s.data.toList | _ => []) i1
  simp only [List.map_map] at this
  refine Eq.trans ?_ (this.trans ?_)
  ·rfl
  ·have e2 : ∀ s ∈ ks, ((fun v : Value => match v with | .string s => s.data.toList | _ => []) ∘ Go.Proofs.encStr) s = s := fun s _ => by simp
   rw [List.map_congr_left e2]; simp
def SortedC (P : Program) (fs it kt : Nat) : Prop := ∀ (b nn : Nat) (D0 : DataW Unit) (R : Value → Option (DataW Unit × List MemPlace)) (Bm : Nat) (w : World), Bm < w.heap.size → w.cell? ⟨Bm, 0, none⟩ = some (.map (some b)) → w.ownsMap P kt R b nn D0 → Maps.size D0 ≤ maxLen → Maps.size D0 * 16 ≤ 140737488355328 →
 Calls P fs #[.func (.func it) #[] #[.pointer (some ⟨Bm, 0, none⟩)]] w fun e w' => ∃ (v : Value) (ss : List (List UInt8)), e = .returned v ∧ ss.Perm (strKeys D0) ∧ w'.ownsRow w.heap.size kt 1 v ss.length ((ss.mergeSort leB).map Go.Proofs.encStr) ∧ (v = .slice none 0 0 ↔ ss = []) ∧ RowKit.Below w.heap.size w w'
theorem sorted_ok {fs it kt : Nat} (hk : P.underlying kt = some .string) (hen : ∀ a w, (callFunc fs a).run P w = .ok (.enter fs a) w) (hS : SortedC P fs it kt) :
  ∀ f args os outs, sortedExt fs it f args os = some (some outs) → FunOk P gl f args os outs := by
 intro f args os outs h
 unfold sortedExt at h
 split at h
 ·cases h
 rename_i hf
 have hf := Nat.eq_of_beq_eq_true hf
 subst hf
 split at h
 case h_2 => cases h
 rename_i g i
 split at h
 ·cases h
 rename_i hg
 have hg := Nat.eq_of_beq_eq_true hg
 subst hg
 split at h
 case h_2 => cases h
 rename_i j hi0
 split at h
 case h_2 => cases h
 rename_i es c hj0
 split at h
 case h_2 => cases h
 rename_i ks hks
 split at h
 case h_2 => cases h
 rename_i hn
 have hn := Nat.le_of_ble_eq_true hn
 cases h
 refine ⟨hen, fun B w β vals hi hp hv => ?_⟩
 -- the arguments
 obtain ⟨v, rfl⟩ : ∃ v, vals = [v] := by
  have := hv.1
  match vals, this with
  | [v], _ => exact ⟨v, rfl⟩
 have hd := hv.2 0 _ _ rfl rfl
 cases hd with
 | fn _ as' bs vs us h1 h2 h3 h4 =>
 obtain rfl : vs = [] := List.eq_nil_of_length_eq_zero h1.symm
 obtain ⟨u, rfl⟩ : ∃ u, us = [u] := by
  match us, h3 with
  | [u], _ => exact ⟨u, rfl⟩
 have hu := h4 0 _ _ rfl rfl
 cases hu with
 | ptr _ _ Bm hB =>
 obtain ⟨vs, T, fr, o1, o2, o3, o4⟩ := hi.obj i Bm _ hB hi0
 obtain ⟨m, rfl⟩ : ∃ m, vs = [m] := by
  have := o2.1
  match vs, this with
  | [m], _ => exact ⟨m, rfl⟩
 have hm := o2.2 0 _ _ rfl rfl
 cases hm with
 | map _ b hb =>
 obtain ⟨mes, q1, q2, q3⟩ := hi.obj j b _ hb hj0
 have q3' : ∀ (j bn : Nat) k v, es[j]? = some (bn, k, v) → ∃ e, mes[j]? = some e ∧ e.born = bn ∧ keyV k = some e.key := fun j bn k v hj => by
  obtain ⟨e, e1, e2, e3, _⟩ := q3 j bn k v hj
  exact ⟨e, e1, e2, e3⟩
 obtain ⟨D0, d1, d2, d3⟩ := keysB_owns hk hks hn q2 q3' q1
 refine (hS b 1000 D0 anyR Bm w (heap_lt o1) (by simp [World.cell?, o1]) d1 (by simp [maxLen]; omega) (by omega)).mono ?_
 rintro e w' ⟨v, ss, rfl, s1, s2, s3, s4⟩
 have hp' := s1.trans d3
 have hsrt : ss.mergeSort leB = sortB ks := sortB_eq hp'
 rw [hsrt] at s2
 have hlen := hi.len
 have hsl : ss.length = (sortB ks).length := by rw [hp'.length_eq, (sortB_perm ks).length_eq]
 cases hks' : sortB ks with
 | nil =>
  have : ss = [] := List.eq_nil_of_length_eq_zero (by rw [hsl, hks']; rfl)
  have hv := s3.2 this
  subst hv
  refine ⟨_, _, [], .nilsl, rfl, List.mem_singleton.2 rfl, rfl, fun y hy => by simp at hy, ?_, rfl, .nilsl⟩
  have : merge os ⟨[.nilsl], [], []⟩ = os := by simp [merge, setL]
  show Inv gl B w' (β ++ []) (merge os ⟨[.nilsl], [], []⟩)
  rw [this, List.append_nil]
  exact ⟨hi.len, hi.inj, fun i b o q1 q2 => (hi.obj i b o q1 q2).mono (.refl _) fun hl => s4.block b ((hi.obj i b o q1 q2).lt hl), hi.own, Nat.le_trans hi.size s4.size, fun b hb => by rw [s4.block b (Nat.lt_of_lt_of_le (Base.lt hb) hi.size)]; exact hi.keep b hb, s4.os.trans hi.os, s4.tape.trans hi.tape, s4.output.trans hi.output, hi.glob, hi.pre⟩
 | cons x l =>
  rw [hks'] at s2 hsl
  rcases s2.2 with ⟨rfl, hz⟩ | ⟨g', cap, cur, rfl, r1, r2, r3, r4, r5, r6⟩
  ·rw [hsl] at hz; simp at hz
  have hr6 : cur.toList.take (x :: l).length = (x :: l).map Go.Proofs.encStr := by rw [← r6, hsl, Nat.mul_one]
  have hg := hi.ghost cap
  have hci : (β ++ [cap])[os.length]? = some cap := by rw [← hlen]; simp
  have hi3 := hg.push (w' := w') (b := g') (x := .vec 1 os.length ((x :: l).map .str)) r1 s4.size s4.block s4.os s4.tape s4.output (by
   refine ⟨cap, cur.toList, kt, (0, 0), Pre.snoc _ _ _ _ hci, by simpa using r2, by simpa using r5, ?_, ?_, ?_, by simp⟩
   ·have := hsl; simp at this r5 ⊢; omega
   ·rw [List.length_map, hr6]
    refine ⟨by simp, fun j c v hc hv => ?_⟩
    rw [List.getElem?_map] at hc hv
    cases hj : (x :: l)[j]? with
    | none => rw [hj] at hc; cases hc
    | some s => rw [hj] at hc hv; cases hc; cases hv; exact .str s
   ·rw [List.length_map, hr6]
    intro u hu
    obtain ⟨s, _, rfl⟩ := List.mem_map.1 hu
    rfl)
  have hm : merge os ⟨[.sl 1 (os.length + 1) 0 (x :: l).length (.ghost os.length)], [.dead, .vec 1 os.length ((x :: l).map .str)], []⟩ = os ++ [.dead] ++ [.vec 1 os.length ((x :: l).map .str)] := by simp [merge, setL]
  refine ⟨_, _, [cap, g'], .sl 1 (os.length + 1) 0 (x :: l).length (.ghost os.length), rfl, List.mem_singleton.2 rfl, rfl, fun y hy => by simp at hy, ?_, rfl, ?_⟩
  ·rw [hm]
   have e : β ++ [cap, g'] = β ++ [cap] ++ [g'] := by simp
   rw [e]; exact hi3
  ·have : Den (β ++ [cap, g']) (.sl 1 (os.length + 1) 0 (x :: l).length (.ghost os.length)) (.slice (some ⟨g', 0 * 1, none⟩) ss.length cap) := by
    rw [← hsl]
    refine .sl _ _ _ _ _ _ _ ?_ ?_ r3
    ·rw [List.getElem?_append_right (by omega), hlen]
     simp
    ·show (β ++ [cap, g'])[os.length]? = some (0 + cap)
     rw [← hlen]; simp
   simpa using this
end
end
end Go.Ev
namespace Go.Ev
open Go
noncomputable section
structure Ent where
 f : FuncId
 args : List V
 os : List O
 outs : List Dl
def tabExt (tab : List Ent) (f : FuncId) (args : List V) (os : List O) : Option R := match tab with
 | [] => none
 | e :: l => match Nat.beq e.f f && eqL (eqV 5) e.args args && eqL eqO e.os os with
  | true => some (some e.outs)
  | false => tabExt l f args os
def extK (fs it ft : Nat) (tab : List Ent) (f : FuncId) (args : List V) (os : List O) : Option R := match Nat.beq f ft with
 | true => tabExt tab f args os
 | false => sortedExt fs it f args os
section
variable {P : Program} {gl : List (Nat × List V)}
def TabOk (P : Program) (gl : List (Nat × List V)) (tab : List Ent) : Prop := ∀ e ∈ tab, FunOk P gl e.f e.args e.os e.outs
theorem TabOk.nil : TabOk P gl [] := fun e he => by cases he
theorem TabOk.cons {e : Ent} {tab : List Ent} (h : FunOk P gl e.f e.args e.os e.outs) (t : TabOk P gl tab) : TabOk P gl (e :: tab) := fun x hx => by
 rcases List.mem_cons.1 hx with rfl | hx
 ·exact h
 ·exact t x hx
theorem tabExt_ok : ∀ {tab : List Ent}, TabOk P gl tab → ∀ {f args os outs}, tabExt tab f args os = some (some outs) → FunOk P gl f args os outs
 | [], _, f, args, os, outs, h => by cases h
 | e :: l, ht, f, args, os, outs, h => by
  unfold tabExt at h
  split at h
  ·rename_i hb
   simp only [Bool.and_eq_true] at hb
   cases h
   have h1 := Nat.eq_of_beq_eq_true hb.1.1
   have h2 := eqL_sound (fun _ _ => eqV_sound 5) hb.1.2
   have h3 := eqL_sound (fun _ _ => eqO_sound) hb.2
   have := ht e (by simp)
   rwa [h1, h2, h3] at this
  ·exact tabExt_ok (fun x hx => ht x (List.mem_cons_of_mem _ hx)) h
theorem extK_ok {fs it ft : Nat} (hS : ∀ f args os outs, sortedExt fs it f args os = some (some outs) → FunOk P gl f args os outs) {tab : List Ent} (ht : TabOk P gl tab) : ∀ f args os outs, extK fs it ft tab f args os = some (some outs) → FunOk P gl f args os outs := by
 intro f args os outs h
 unfold extK at h
 split at h
 ·exact tabExt_ok ht h
 ·exact hS f args os outs h
end
end
end Go.Ev
namespace Go.Proofs
open Go.RowKit Go.Maps Go.Sort Go.Shelf
def Tryz.keys104_ren : Go.Shelf.Ren := ⟨fun | 7 => 104 | 10 => 153 | n => n, fun | 0 => 0 | 3 => 118 | 4 => 4 | 23 => 184 | 26 => 9 | 27 => 187 | 28 => 188 | 33 => 229 | n => n, fun n => n⟩
theorem Tryz.keys104 : Go.Proofs.SlLaysZ.n7 Tryz.prog Tryz.keys104_ren := {
 mixed := by kernel_rfl
 f7 := ⟨Tryz.f104.name, by kernel_rfl, Tryz.func104.trans (congrArg some (by kernel_rfl))⟩
 f10 := ⟨Tryz.f153.name, by kernel_rfl, Tryz.func153.trans (congrArg some (by kernel_rfl))⟩
 t0 := Tryz.underlying0
 a0 := Tryz.isAgg0
 z0 := Tryz.sizeOf0
 v0 := Tryz.zeroValue0
 t4 := Tryz.underlying4
 a4 := Tryz.isAgg4
 z4 := Tryz.sizeOf4
 v4 := Tryz.zeroValue4
 t23 := Tryz.underlying184
 a23 := Tryz.isAgg184
 z23 := Tryz.sizeOf184
 v23 := Tryz.zeroValue184
 t26 := Tryz.underlying9
 a26 := Tryz.isAgg9
 z26 := Tryz.sizeOf9
 v26 := Tryz.zeroValue9
 t27 := Tryz.underlying187
 a27 := Tryz.isAgg187
 z27 := Tryz.sizeOf187
 v27 := Tryz.zeroValue187
 t28 := Tryz.underlying188
 a28 := Tryz.isAgg188
 z28 := Tryz.sizeOf188
 v28 := Tryz.zeroValue188
 t33 := Tryz.underlying229
 a33 := Tryz.isAgg229
 z33 := Tryz.sizeOf229
 v33 := Tryz.zeroValue229
}
def Tryz.sorted103_ren : Go.Shelf.Ren := ⟨fun | 6 => 103 | 8 => 151 | 9 => 152 | 11 => 212 | 12 => 213 | 13 => 141 | 14 => 267 | 15 => 268 | 16 => 269 | 17 => 270 | 18 => 271 | 19 => 272 | 20 => 273 | 21 => 274 | 22 => 275 | 23 => 203 | 24 => 204 | 25 => 315 | 26 => 256 | 27 => 257 | 28 => 316 | 29 => 317 | 30 => 318 | 31 => 332 | n => n, fun | 0 => 0 | 3 => 3 | 4 => 4 | 5 => 5 | 9 => 9 | 24 => 72 | 26 => 9 | 28 => 188 | 33 => 229 | 37 => 181 | 39 => 265 | 40 => 266 | 45 => 270 | 48 => 30 | 50 => 190 | 51 => 306 | 55 => 310 | 57 => 344 | 58 => 345 | n => n, fun n => n⟩
theorem Tryz.sorted103 : Go.Proofs.SlLaysZ.n6 Tryz.prog Tryz.sorted103_ren := {
 mixed := by kernel_rfl
 f6 := ⟨Tryz.f103.name, by kernel_rfl, Tryz.func103.trans (congrArg some (by kernel_rfl))⟩
 f8 := ⟨Tryz.f151.name, by kernel_rfl, Tryz.func151.trans (congrArg some (by kernel_rfl))⟩
 f11 := ⟨Tryz.f212.name, by kernel_rfl, Tryz.func212.trans (congrArg some (by kernel_rfl))⟩
 t0 := Tryz.underlying0
 a0 := Tryz.isAgg0
 z0 := Tryz.sizeOf0
 v0 := Tryz.zeroValue0
 t24 := Tryz.underlying72
 a24 := Tryz.isAgg72
 z24 := Tryz.sizeOf72
 v24 := Tryz.zeroValue72
 t26 := Tryz.underlying9
 a26 := Tryz.isAgg9
 z26 := Tryz.sizeOf9
 v26 := Tryz.zeroValue9
 t28 := Tryz.underlying188
 a28 := Tryz.isAgg188
 z28 := Tryz.sizeOf188
 v28 := Tryz.zeroValue188
 i26 := by kernel_rfl
}
def Tryz.sort152_ren : Go.Shelf.Ren := ⟨fun | 6 => 152 | 8 => 141 | 9 => 213 | 19 => 203 | 20 => 204 | 21 => 267 | 22 => 268 | 23 => 269 | 24 => 270 | 25 => 271 | 26 => 272 | 27 => 273 | 28 => 274 | 29 => 275 | 31 => 256 | 32 => 257 | 36 => 315 | 37 => 316 | 38 => 317 | 39 => 318 | 41 => 332 | n => n, fun | 0 => 0 | 3 => 3 | 4 => 4 | 5 => 5 | 9 => 9 | 26 => 72 | 27 => 72 | 29 => 9 | 32 => 181 | 35 => 265 | 36 => 266 | 41 => 270 | 44 => 30 | 46 => 190 | 53 => 306 | 57 => 310 | 63 => 344 | 64 => 345 | n => n, fun n => n⟩
theorem Tryz.sort152 : Go.Proofs.SlLaysM.n6 Tryz.prog Tryz.sort152_ren := {
 mixed := by kernel_rfl
 f6 := ⟨Tryz.f152.name, by kernel_rfl, Tryz.func152.trans (congrArg some (by kernel_rfl))⟩
 f8 := Tryz.func141.trans (congrArg some (by kernel_rfl))
 f9 := ⟨Tryz.f213.name, by kernel_rfl, Tryz.func213.trans (congrArg some (by kernel_rfl))⟩
 f19 := Tryz.func203.trans (congrArg some (by kernel_rfl))
 f20 := Tryz.func204.trans (congrArg some (by kernel_rfl))
 f21 := ⟨Tryz.f267.name, by kernel_rfl, Tryz.func267.trans (congrArg some (by kernel_rfl))⟩
 f22 := ⟨Tryz.f268.name, by kernel_rfl, Tryz.func268.trans (congrArg some (by kernel_rfl))⟩
 f23 := ⟨Tryz.f269.name, by kernel_rfl, Tryz.func269.trans (congrArg some (by kernel_rfl))⟩
 f24 := ⟨Tryz.f270.name, by kernel_rfl, Tryz.func270.trans (congrArg some (by kernel_rfl))⟩
 f25 := ⟨Tryz.f271.name, by kernel_rfl, Tryz.func271.trans (congrArg some (by kernel_rfl))⟩
 f26 := ⟨Tryz.f272.name, by kernel_rfl, Tryz.func272.trans (congrArg some (by kernel_rfl))⟩
 f27 := ⟨Tryz.f273.name, by kernel_rfl, Tryz.func273.trans (congrArg some (by kernel_rfl))⟩
 f28 := ⟨Tryz.f274.name, by kernel_rfl, Tryz.func274.trans (congrArg some (by kernel_rfl))⟩
 f29 := ⟨Tryz.f275.name, by kernel_rfl, Tryz.func275.trans (congrArg some (by kernel_rfl))⟩
 f31 := Tryz.func256.trans (congrArg some (by kernel_rfl))
 f32 := Tryz.func257.trans (congrArg some (by kernel_rfl))
 f36 := ⟨Tryz.f315.name, by kernel_rfl, Tryz.func315.trans (congrArg some (by kernel_rfl))⟩
 f37 := ⟨Tryz.f316.name, by kernel_rfl, Tryz.func316.trans (congrArg some (by kernel_rfl))⟩
 f38 := ⟨Tryz.f317.name, by kernel_rfl, Tryz.func317.trans (congrArg some (by kernel_rfl))⟩
 f39 := ⟨Tryz.f318.name, by kernel_rfl, Tryz.func318.trans (congrArg some (by kernel_rfl))⟩
 f41 := ⟨Tryz.f332.name, by kernel_rfl, Tryz.func332.trans (congrArg some (by kernel_rfl))⟩
 t0 := Tryz.underlying0
 a0 := Tryz.isAgg0
 z0 := Tryz.sizeOf0
 v0 := Tryz.zeroValue0
 t3 := Tryz.underlying3
 a3 := Tryz.isAgg3
 z3 := Tryz.sizeOf3
 v3 := Tryz.zeroValue3
 t4 := Tryz.underlying4
 a4 := Tryz.isAgg4
 z4 := Tryz.sizeOf4
 v4 := Tryz.zeroValue4
 t5 := Tryz.underlying5
 a5 := Tryz.isAgg5
 z5 := Tryz.sizeOf5
 v5 := Tryz.zeroValue5
 t9 := Tryz.underlying9
 a9 := Tryz.isAgg9
 z9 := Tryz.sizeOf9
 v9 := Tryz.zeroValue9
 t26 := Tryz.underlying72
 a26 := Tryz.isAgg72
 z26 := Tryz.sizeOf72
 v26 := Tryz.zeroValue72
 t27 := Tryz.underlying72
 a27 := Tryz.isAgg72
 z27 := Tryz.sizeOf72
 v27 := Tryz.zeroValue72
 t29 := Tryz.underlying9
 a29 := Tryz.isAgg9
 z29 := Tryz.sizeOf9
 v29 := Tryz.zeroValue9
 t32 := Tryz.underlying181
 a32 := Tryz.isAgg181
 z32 := Tryz.sizeOf181
 v32 := Tryz.zeroValue181
 t35 := Tryz.underlying265
 a35 := Tryz.isAgg265
 z35 := Tryz.sizeOf265
 v35 := Tryz.zeroValue265
 t36 := Tryz.underlying266
 a36 := Tryz.isAgg266
 z36 := Tryz.sizeOf266
 v36 := Tryz.zeroValue266
 t41 := Tryz.underlying270
 a41 := Tryz.isAgg270
 z41 := Tryz.sizeOf270
 v41 := Tryz.zeroValue270
 t44 := Tryz.underlying30
 a44 := Tryz.isAgg30
 z44 := Tryz.sizeOf30
 v44 := Tryz.zeroValue30
 t46 := Tryz.underlying190
 a46 := Tryz.isAgg190
 z46 := Tryz.sizeOf190
 v46 := Tryz.zeroValue190
 t53 := Tryz.underlying306
 a53 := Tryz.isAgg306
 z53 := Tryz.sizeOf306
 v53 := Tryz.zeroValue306
 t57 := Tryz.underlying310
 a57 := Tryz.isAgg310
 z57 := Tryz.sizeOf310
 v57 := Tryz.zeroValue310
 t63 := Tryz.underlying344
 a63 := Tryz.isAgg344
 z63 := Tryz.sizeOf344
 v63 := Tryz.zeroValue344
 t64 := Tryz.underlying345
 a64 := Tryz.isAgg345
 z64 := Tryz.sizeOf345
 v64 := Tryz.zeroValue345
}
theorem Tryz.sorts103 (m : Nat) : AnyZ.SortsIn Tryz.prog Tryz.sorted103_ren Fence.wide m :=
  ⟨fun blk off cap ss W hH hblk hsz => callsIn_wide.2 (AnyM.slices_Sort_string Tryz.sort152 blk off cap ss W hH hblk hsz),
   fun p cap W => callsIn_wide.2 (AnyM.slices_Sort_string_none Tryz.sort152 p cap W)⟩
theorem Tryz.sortedC : Go.Ev.SortedC Tryz.prog 103 153 9 := fun b nn D0 R Bm w hBm hm hown h1 h2 => by
 have hseq : SeqGives Fence.wide 2 Tryz.prog 153 #[.pointer (some ⟨Bm, 0, none⟩)] encStr (fun ss => ss.Perm (strKeys D0)) (Maps.size D0) w :=
  AnyZ.keys_gives (ρ := Tryz.keys104_ren) { Tryz.keys104 with } Fence.wide _ trivial rfl (by omega) Bm b nn D0 w hBm hm hown
 exact (callsIn_wide (n := 5)).1 (AnyZ.sorted_in Tryz.sorted103 Fence.wide 5 trivial trivial trivial trivial rfl (by omega) (Tryz.sorts103 _) (enters_of Tryz.func152 (by kernel_rfl) rfl) 153 #[.pointer (some ⟨Bm, 0, none⟩)] trivial (enters_of Tryz.func153 (by kernel_rfl) rfl) _ _ h1 h2 _ hseq)
theorem Tryz.sortedK (gl : List (Nat × List Go.Ev.V)) : ∀ f args os outs, Go.Ev.sortedExt 103 153 f args os = some (some outs) → Go.Ev.FunOk Tryz.prog gl f args os outs :=
 Go.Ev.sorted_ok (kt := 9) Tryz.underlying9 (enters_of Tryz.func103 (by kernel_rfl) rfl) Tryz.sortedC
end Go.Proofs
