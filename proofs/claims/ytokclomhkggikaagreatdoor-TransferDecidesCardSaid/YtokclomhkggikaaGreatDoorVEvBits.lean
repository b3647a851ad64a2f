/-
 The orders of an open region, found by bits, are the region's.
 Open regions, walked by their plan.
 Values and objects, numbered anew.
-/
import Derived.Test.YtokclomhkggikaaGreatDoorVEvDraw
namespace Go.Ev
open Go
noncomputable section
theorem hasB_eq (l i : Nat) : hasB l i = l.testBit i := by
 have h : hasB l i = decide (l / 2 ^ i % 2 = 1) := by
  unfold hasB
  have e : Nat.land (Nat.shiftRight l i) 1 = l / 2 ^ i % 2 := by
   change (l >>> i) &&& 1 = _
   rw [Nat.and_one_is_mod, Nat.shiftRight_eq_div_pow]
  rw [e]
  by_cases hh : l / 2 ^ i % 2 = 1
  ·rw [hh]; rfl
  ·have : Nat.beq (l / 2 ^ i % 2) 1 = false := by
    rw [Bool.eq_false_iff]; intro hb; exact hh (Nat.eq_of_beq_eq_true hb)
   rw [this]; simp [hh]
 rw [h, Nat.testBit_eq_decide_div_mod_eq]
theorem bit_test (t j : Nat) : (bit t).testBit j = decide (t = j) := by
 change (2 ^ t).testBit j = _
 rw [Nat.testBit_two_pow]
theorem lor_test (a b j : Nat) : (Nat.lor a b).testBit j = (a.testBit j || b.testBit j) := Nat.testBit_or a b j
theorem land_test (a b j : Nat) : (Nat.land a b).testBit j = (a.testBit j && b.testBit j) := Nat.testBit_and a b j
theorem land_sub {a b : Nat} : Nat.beq (Nat.land a b) a = true ↔ ∀ j, a.testBit j = true → b.testBit j = true := by
 constructor
 ·intro h j hj
  have e := Nat.eq_of_beq_eq_true h
  have := land_test a b j
  rw [e, hj] at this
  simpa using this.symm
 ·intro h
  have : Nat.land a b = a := Nat.eq_of_testBit_eq fun j => by
   rw [land_test]
   cases hj : a.testBit j with
   | false => rfl
   | true => rw [h j hj]; rfl
  rw [this]; exact Nat.beq_refl a
theorem land_zero {a b : Nat} (h : Nat.beq (Nat.land a b) 0 = true) (j : Nat) (hj : a.testBit j = true) : b.testBit j = false := by
 have e := Nat.eq_of_beq_eq_true h
 have := land_test a b j
 rw [e, hj] at this
 simpa using this.symm
theorem afterB_test : ∀ (l : List Edge) (acc j : Nat), (afterB l acc).testBit j = true ↔ acc.testBit j = true ∨ ∃ e ∈ l, Region.binds .any e = true ∧ e.on = j
 | [], acc, j => by simp [afterB]
 | e :: l, acc, j => by
  unfold afterB
  cases hb : Region.binds .any e with
  | true =>
   simp only [fNat_eq]
   rw [afterB_test l, lor_test, bit_test]
   simp only [Bool.or_eq_true, decide_eq_true_eq, List.mem_cons]
   constructor
   ·rintro ((h | h) | ⟨e', h1, h2⟩)
    ·exact .inl h
    ·exact .inr ⟨e, .inl rfl, hb, h⟩
    ·exact .inr ⟨e', .inr h1, h2⟩
   ·rintro (h | ⟨e', rfl | h1, h2, h3⟩)
    ·exact .inl (.inl h)
    ·exact .inl (.inr h3)
    ·exact .inr ⟨e', h1, h2, h3⟩
  | false =>
   simp only []
   rw [afterB_test l]
   simp only [List.mem_cons]
   constructor
   ·rintro (h | ⟨e', h1, h2⟩)
    ·exact .inl h
    ·exact .inr ⟨e', .inr h1, h2⟩
   ·rintro (h | ⟨e', rfl | h1, h2, h3⟩)
    ·exact .inl h
    ·rw [hb] at h2; cases h2
    ·exact .inr ⟨e', h1, h2, h3⟩
theorem looksB_test : ∀ (l : List Operand) (acc j : Nat), (looksB l acc).testBit j = true ↔ acc.testBit j = true ∨ Operand.tmp j ∈ l
 | [], acc, j => by simp [looksB]
 | x :: l, acc, j => by
  unfold looksB
  cases x with
  | tmp t =>
   simp only [fNat_eq]
   rw [looksB_test l, lor_test, bit_test]
   simp only [Bool.or_eq_true, decide_eq_true_eq, List.mem_cons, Operand.tmp.injEq]
   constructor
   ·rintro ((h | h) | h)
    ·exact .inl h
    ·exact .inr (.inl h.symm)
    ·exact .inr (.inr h)
   ·rintro (h | h | h)
    ·exact .inl (.inl h)
    ·exact .inl (.inr h.symm)
    ·exact .inr h
  | _ => simp only []; rw [looksB_test l]; simp
section
variable {ops : Array Oper}
structure InfoR (ops : Array Oper) (o : Oper) (x : OI) : Prop where
 after : ∀ j, x.after.testBit j = true ↔ ∃ e ∈ o.after, Region.binds .any e = true ∧ e.on = j
 d : ∀ j, x.d.testBit j = true ↔ o.dst = some j
 k : ∀ j, x.k.testBit j = true ↔ j ∈ o.looksAt ops
 p : x.pure = pureC o.op
theorem zero_test (j : Nat) : (0 : Nat).testBit j = false := Nat.zero_testBit j
theorem infoK_spec {γ : Type} (o : Oper) (c : OI → γ) : ∃ x, infoK ops o c = c x ∧ InfoR ops o x := by
 unfold infoK
 simp only [fNat_eq, fBool_eq]
 refine ⟨_, rfl, ⟨fun j => ?_, fun j => ?_, fun j => ?_, rfl⟩⟩
 ·rw [afterB_test]; simp [Array.mem_toList_iff]
 ·cases o.dst with
  | none => simp
  | some d => simp only []; rw [bit_test]; simp
 ·rw [looksB_test]
  have hg : (guardB ops o).testBit j = true ↔ ∃ g, o.guard = some g ∧ (ops[g.1]?).bind (·.dst) = some j := by
   unfold guardB
   cases o.guard with
   | none => simp
   | some g =>
    simp only [dstOf_eq]
    cases hd : (ops[g.1]?).bind (·.dst) with
    | none => simp [hd]
    | some d => simp only []; rw [bit_test]; simp [hd]
  rw [hg]
  unfold Oper.looksAt
  rw [List.mem_append]
  constructor
  ·rintro (⟨g, h1, h2⟩ | h)
   ·right; rw [h1]; simp [h2]
   ·left; exact List.mem_filterMap.2 ⟨.tmp j, h, rfl⟩
  ·rintro (h | h)
   ·right
    obtain ⟨x, hx, hj⟩ := List.mem_filterMap.1 h
    cases x <;> simp at hj
    subst hj; exact hx
   ·left
    cases hg : o.guard with
    | none => rw [hg] at h; cases h
    | some g => rw [hg] at h; refine ⟨g, rfl, ?_⟩; revert h; simp
theorem readyB_mem : ∀ (l : List OI) (i L j : Nat), j ∈ readyB l i L ↔ ∃ k x, l[k]? = some x ∧ j = i + k ∧ hasB L j = false ∧ Nat.beq (Nat.land x.after L) x.after = true
 | [], i, L, j => by simp [readyB]
 | x :: l, i, L, j => by
  have ih := readyB_mem l (i + 1) L j
  have step : (∃ k y, (x :: l)[k]? = some y ∧ j = i + k ∧ hasB L j = false ∧ Nat.beq (Nat.land y.after L) y.after = true) ↔
    (j = i ∧ hasB L i = false ∧ Nat.beq (Nat.land x.after L) x.after = true) ∨ j ∈ readyB l (i + 1) L := by
   rw [ih]
   constructor
   ·rintro ⟨k, y, h1, h2, h3, h4⟩
    cases k with
    | zero => simp at h1; subst h1; left; subst h2; exact ⟨rfl, h3, h4⟩
    | succ k => right; exact ⟨k, y, by simpa using h1, by omega, h3, h4⟩
   ·rintro (⟨rfl, h3, h4⟩ | ⟨k, y, h1, h2, h3, h4⟩)
    ·exact ⟨0, x, rfl, rfl, h3, h4⟩
    ·exact ⟨k + 1, y, by simpa using h1, by omega, h3, h4⟩
  rw [step]
  have e : readyB (x :: l) i L = match hasB L i with
   | true => readyB l (i + 1) L
   | false => match Nat.beq (Nat.land x.after L) x.after with
    | true => i :: readyB l (i + 1) L
    | false => readyB l (i + 1) L := rfl
  rw [e]
  cases h1 : hasB L i with
  | true => simp
  | false =>
   cases h2 : Nat.beq (Nat.land x.after L) x.after with
   | true => simp
   | false => simp
theorem freeB_spec {i : Nat} {oi : OI} {L : Nat} : ∀ {l : List OI} {j : Nat}, freeB i oi L l j = true → ∀ k x, l[k]? = some x → j + k ≠ i → hasB L (j + k) = false → hasB x.after i = false →
  Nat.beq (Nat.land oi.d (Nat.lor x.k x.d)) 0 = true ∧ Nat.beq (Nat.land x.d oi.k) 0 = true
 | [], j, _, k, x, hx, _, _, _ => by simp at hx
 | y :: l, j, h, k, x, hx, hne, hun, hno => by
  have tail : freeB i oi L l (j + 1) = true → k ≠ 0 → Nat.beq (Nat.land oi.d (Nat.lor x.k x.d)) 0 = true ∧ Nat.beq (Nat.land x.d oi.k) 0 = true := fun ht hk => by
   cases k with
   | zero => exact absurd rfl hk
   | succ k =>
    have e : j + 1 + k = j + (k + 1) := by omega
    exact freeB_spec ht k x (by simpa using hx) (by rw [e]; exact hne) (by rw [e]; exact hun) hno
  unfold freeB at h
  by_cases hk : k = 0
  ·subst hk
   simp at hx; subst hx
   simp only [Nat.add_zero] at hne hun
   have hb : Nat.beq j i = false := by rw [Bool.eq_false_iff]; intro hb; exact hne (Nat.eq_of_beq_eq_true hb)
   rw [hb, hun, hno] at h
   simp only [] at h
   cases h1 : Nat.beq (Nat.land oi.d (Nat.lor y.k y.d)) 0 with
   | false => rw [h1] at h; cases h
   | true =>
    rw [h1] at h
    simp only [] at h
    cases h2 : Nat.beq (Nat.land y.d oi.k) 0 with
    | false => rw [h2] at h; cases h
    | true => exact ⟨rfl, rfl⟩
  ·refine tail ?_ hk
   split at h
   ·exact h
   ·split at h
    ·exact h
    ·split at h
     ·exact h
     ·split at h
      ·split at h
       ·exact h
       ·cases h
      ·cases h
theorem findFree_spec {is : List OI} {L : Nat} : ∀ {l : List Nat} {i : Nat}, findFree is L l = some i → i ∈ l ∧ ∃ oi, is[i]? = some oi ∧ oi.pure = true ∧ freeB i oi L is 0 = true
 | [], i, h => by cases h
 | j :: l, i, h => by
  have tail : findFree is L l = some i → i ∈ j :: l ∧ ∃ oi, is[i]? = some oi ∧ oi.pure = true ∧ freeB i oi L is 0 = true := fun h => by
   obtain ⟨h1, h2⟩ := findFree_spec h; exact ⟨List.mem_cons_of_mem _ h1, h2⟩
  unfold findFree at h
  split at h
  ·rename_i oi hoi
   split at h
   ·rename_i hp
    split at h
    ·rename_i hf; cases h; exact ⟨by simp, oi, hoi, hp, hf⟩
    ·exact tail h
   ·exact tail h
  ·cases h
def BitsR (ops : Array Oper) (L : Nat) (listed : Array Bool) : Prop := listed.size = ops.size ∧ ∀ j, L.testBit j = listed.getD j false
theorem BitsR.set {L : Nat} {listed : Array Bool} (h : BitsR ops L listed) {i : Nat} (hi : i < ops.size) : BitsR ops (Nat.lor L (bit i)) (listed.setIfInBounds i true) := by
 refine ⟨by simp [h.1], fun j => ?_⟩
 rw [lor_test, bit_test, h.2]
 have hs := h.1
 by_cases hij : i = j
 ·subst hij; simp [show i < listed.size by omega]
 ·simp [hij, Array.getElem?_setIfInBounds_ne hij]
def PlanOk (ops : Array Oper) : Plan → Nat → Array Bool → Option (List Nat) → Prop
 | .done, _, listed, o => o = none ∧ Region.ready .any ops listed = []
 | .fail, _, _, _ => True
 | .dead, _, _, o => o = some []
 | .op i fr p, n, listed, o => o = none ∧ ∃ n' oi, n = n' + 1 ∧ ops[i]? = some oi ∧ PlanOk ops p n' (listed.setIfInBounds i true) none ∧ i ∈ Region.ready .any ops listed ∧
   if fr then pureC oi.op = true ∧ ∀ j oj, ops[j]? = some oj → j ≠ i → listed.getD j true = false → (∀ e ∈ oj.after, Region.binds .any e = true → e.on ≠ i) → oi.apart ops oj = true
   else ∀ j ∈ Region.ready .any ops listed, j = i
 | .alt i p q, n, listed, o => ∃ n' l, n = n' + 1 ∧ PlanOk ops p n' (listed.setIfInBounds i true) none ∧ PlanOk ops q n listed (some l) ∧ match o with
   | none => i ∈ Region.ready .any ops listed ∧ ∀ j ∈ Region.ready .any ops listed, j ∈ i :: l
   | some l' => l' = i :: l
def InfosR (ops : Array Oper) (is : List OI) : Prop := is.length = ops.size ∧ ∀ (j : Nat) o, ops[j]? = some o → ∃ x, is[j]? = some x ∧ InfoR ops o x
theorem ready_eq {is : List OI} (hin : InfosR ops is) {L : Nat} {listed : Array Bool} (hb : BitsR ops L listed) (j : Nat) : j ∈ readyB is 0 L ↔ j ∈ Region.ready .any ops listed := by
 rw [readyB_mem, mem_ready]
 constructor
 ·rintro ⟨k, x, h1, h2, h3, h4⟩
  rw [Nat.zero_add] at h2; subst h2
  have hlt : j < ops.size := by rw [← hin.1]; exact (List.getElem?_eq_some_iff.1 h1).1
  have ho : ops[j]? = some ops[j] := Array.getElem?_eq_getElem hlt
  obtain ⟨x', h5, h6⟩ := hin.2 j _ ho
  rw [h1] at h5; cases h5
  rw [hasB_eq, hb.2] at h3
  refine ⟨?_, _, ho, fun e he hbe => ?_⟩
  ·have hs := hb.1
   simpa [show j < listed.size by omega] using h3
  ·rw [← hb.2]
   exact land_sub.1 h4 _ ((h6.after _).2 ⟨e, he, hbe, rfl⟩)
 ·rintro ⟨h1, o, ho, h2⟩
  obtain ⟨x, h5, h6⟩ := hin.2 j _ ho
  have hlt : j < ops.size := (Array.getElem?_eq_some_iff.1 ho).1
  refine ⟨j, x, h5, by omega, ?_, ?_⟩
  ·rw [hasB_eq, hb.2]
   have hs := hb.1
   simpa [show j < listed.size by omega] using h1
  ·rw [land_sub]
   intro t ht
   obtain ⟨e, he, hbe, rfl⟩ := (h6.after t).1 ht
   rw [hb.2]; exact h2 e he hbe
theorem apart_of {o o' : Oper} {x x' : OI} (h : InfoR ops o x) (h' : InfoR ops o' x') (h1 : Nat.beq (Nat.land x.d (Nat.lor x'.k x'.d)) 0 = true) (h2 : Nat.beq (Nat.land x'.d x.k) 0 = true) : o.apart ops o' = true := by
 unfold Oper.apart
 rw [Bool.and_eq_true]
 constructor
 ·cases hd : o.dst with
  | none => rfl
  | some d =>
   have := land_zero h1 d ((h.d d).2 hd)
   rw [lor_test, Bool.or_eq_false_iff] at this
   simp only [Bool.and_eq_true, Bool.not_eq_true', bne_iff_ne, ne_eq]
   constructor
   ·rw [Bool.eq_false_iff]
    intro hc
    have := (h'.k d).2 (by simpa using hc)
    simp_all
   ·intro hc
    have := (h'.d d).2 hc
    simp_all
 ·cases hd : o'.dst with
  | none => rfl
  | some d =>
   have := land_zero h2 d ((h'.d d).2 hd)
   simp only [Bool.not_eq_true']
   rw [Bool.eq_false_iff]
   intro hc
   have := (h.k d).2 (by simpa using hc)
   simp_all
theorem alts_ok {is : List OI} {n L : Nat} {listed : Array Bool} (hp : ∀ i, i ∈ readyB is 0 L → PlanOk ops (planGo is n (Nat.lor L (bit i))) n (listed.setIfInBounds i true) none) :
  ∀ (l : List Nat), (∀ i ∈ l, i ∈ readyB is 0 L) → PlanOk ops (l.foldr (fun i q => fNat (Nat.lor L (bit i)) fun L => .alt i (planGo is n L) q) .dead) (n + 1) listed (some l)
 | [], _ => rfl
 | i :: l, h => by
  simp only [List.foldr_cons, fNat_eq]
  exact ⟨n, l, rfl, hp i (h i (by simp)), by simpa only [fNat_eq] using alts_ok hp l fun j hj => h j (by simp [hj]), rfl⟩
theorem planGo_ok {is : List OI} (hin : InfosR ops is) : ∀ (n L : Nat) (listed : Array Bool), BitsR ops L listed → PlanOk ops (planGo is n L) n listed none
 | 0, L, listed, hb => by
  unfold planGo
  split
  ·rename_i h0
   exact ⟨rfl, List.eq_nil_iff_forall_not_mem.2 fun j hj => by rw [← ready_eq hin hb, h0] at hj; cases hj⟩
  ·trivial
 | n + 1, L, listed, hb => by
  have sub : ∀ i, i ∈ readyB is 0 L → i < ops.size ∧ PlanOk ops (planGo is n (Nat.lor L (bit i))) n (listed.setIfInBounds i true) none := fun i hi => by
   have hi' := (ready_eq hin hb i).1 hi
   obtain ⟨_, o, ho, _⟩ := mem_ready.1 hi'
   have hlt : i < ops.size := (Array.getElem?_eq_some_iff.1 ho).1
   exact ⟨hlt, planGo_ok hin n _ _ (hb.set hlt)⟩
  cases heq : readyB is 0 L with
  | nil =>
   simp only [planGo, heq]
   exact ⟨rfl, List.eq_nil_iff_forall_not_mem.2 fun j hj => by rw [← ready_eq hin hb, heq] at hj; cases hj⟩
  | cons i l =>
   simp only [planGo, heq]
   cases hi : findFree is L (i :: l) with
   | some i' =>
    simp only []
    obtain ⟨h1, oi, h2, h3, h4⟩ := findFree_spec hi
    rw [← heq] at h1
    obtain ⟨hlt, hp⟩ := sub i' h1
    have ho : ops[i']? = some ops[i'] := Array.getElem?_eq_getElem hlt
    obtain ⟨x, h5, h6⟩ := hin.2 i' _ ho
    rw [h2] at h5; cases h5
    simp only [fNat_eq]
    refine ⟨rfl, n, _, rfl, ho, hp, (ready_eq hin hb i').1 h1, ?_⟩
    simp only [if_true]
    refine ⟨by rw [← h6.p]; exact h3, fun j oj hj hne hun hno => ?_⟩
    obtain ⟨x', h7, h8⟩ := hin.2 j _ hj
    have hltj : j < ops.size := (Array.getElem?_eq_some_iff.1 hj).1
    have hs := hb.1
    obtain ⟨g1, g2⟩ := freeB_spec h4 j x' h7 (by omega) (by
     rw [Nat.zero_add, hasB_eq, hb.2]
     simpa [show j < listed.size by omega] using hun) (by
     rw [hasB_eq, Bool.eq_false_iff]
     intro hh
     obtain ⟨e, he, hbe, heq⟩ := (h8.after i').1 hh
     exact hno e he hbe heq)
    exact apart_of h6 h8 g1 g2
   | none =>
    simp only []
    cases l with
    | nil =>
     obtain ⟨hlt, hp⟩ := sub i (by rw [heq]; simp)
     simp only [fNat_eq]
     refine ⟨rfl, n, _, rfl, Array.getElem?_eq_getElem hlt, hp, (ready_eq hin hb i).1 (by rw [heq]; simp), ?_⟩
     simp only [Bool.false_eq_true, if_false]
     intro j hj
     rw [← ready_eq hin hb, heq] at hj
     simpa using hj
    | cons i2 l =>
     have := alts_ok (fun i hi => (sub i hi).2) (i :: i2 :: l) (fun j hj => by rw [heq]; exact hj)
     simp only [List.foldr_cons, fNat_eq] at this ⊢
     obtain ⟨n', l', e1, e2, e3, e4⟩ := this
     cases e4
     refine ⟨n', i2 :: l, e1, e2, e3, (ready_eq hin hb i).1 (by rw [heq]; simp), ?_⟩
     intro j hj
     rw [← ready_eq hin hb, heq] at hj
     exact hj
theorem planOf_ok : ∃ p, planOf ops = ⟨p⟩ ∧ PlanOk ops p ops.size (Array.replicate ops.size false) none := by
 have key : ∀ (l : List Oper) (c : List OI → Bx0 Plan), ∃ is, mapK (fun o k => infoK ops o k) l c = c is ∧ is.length = l.length ∧ ∀ (j : Nat) o, l[j]? = some o → ∃ x, is[j]? = some x ∧ InfoR ops o x := by
  intro l
  induction l with
  | nil => intro c; exact ⟨[], rfl, rfl, by intro j o h; simp at h⟩
  | cons o l ih =>
   intro c
   obtain ⟨x, h1, h2⟩ := infoK_spec (ops := ops) o (fun x => mapK (fun o k => infoK ops o k) l fun is => c (x :: is))
   obtain ⟨is, h3, h4, h5⟩ := ih fun is => c (x :: is)
   refine ⟨x :: is, ?_, by simp [h4], fun j o' h => ?_⟩
   ·rw [← h3]; exact h1
   ·cases j with
    | zero => simp at h; subst h; exact ⟨x, rfl, h2⟩
    | succ j => simpa using h5 j o' (by simpa using h)
 obtain ⟨is, h1, h2, h3⟩ := key ops.toList fun is => ⟨planGo is is.length 0⟩
 refine ⟨_, h1, ?_⟩
 have hin : InfosR ops is := ⟨by simpa using h2, fun j o h => h3 j o (by simpa [Array.getElem?_toList] using h)⟩
 rw [hin.1]
 refine planGo_ok hin _ _ _ ⟨by simp, fun j => ?_⟩
 rw [zero_test]
 by_cases hj : j < ops.size <;> simp [hj]
end
end
end Go.Ev
namespace Go.Ev
open Go
noncomputable section
def posV : V → Option Nat
 | .ptr j _ => some j
 | _ => none
def PureOk (P : Program) (gl : List (Nat × List V)) (CO : Call → Prop) : Prop := ∀ op s, pureC op = true → compOp P gl op = some s → ValOk P gl CO op s ∧
 ((∀ t x, op ≠ .load t x) → ∀ env, IndAt s env none) ∧ (∀ t x, op = .load t x → ∀ env p, (∀ k : V → R, opG x env k = k p) → IndAt s env (posV p))
theorem markAll_eq (n0 : Nat) : ∀ (l dl : List Nat) (k : List Nat → R), ∃ dl', markAll n0 l dl k = k dl' ∧ (∀ j ∈ dl, j ∈ dl') ∧ (∀ j ∈ l, j < n0 → j ∈ dl') ∧ ((∀ j ∈ dl, j < n0) → ∀ j ∈ dl', j < n0)
 | [], dl, k => ⟨dl, rfl, fun _ h => h, fun j hj _ => (by cases hj), fun h => h⟩
 | i :: l, dl, k => by
  obtain ⟨dl', h1, h2, h3, h4⟩ := markAll_eq n0 l (mk1 n0 i dl) k
  refine ⟨dl', ?_, fun j hj => h2 j (mk1_sub j hj), fun j hj hlt => ?_, fun h => h4 (mk1_lt h)⟩
  ·unfold markAll
   rw [mark_eq]; exact h1
  ·rcases List.mem_cons.1 hj with rfl | hj
   ·exact h2 _ (mk1_mem hlt)
   ·exact h3 j hj hlt
theorem memN_hit {i j : Nat} {l : List Nat} (h : Nat.beq i j = true) : memN i (j :: l) = true := by
 unfold memN
 simp only [h]
theorem memN_miss {i j : Nat} {l : List Nat} (h : Nat.beq i j = false) : memN i (j :: l) = memN i l := by
 conv => lhs; unfold memN
 simp only [h]
 rfl
theorem memN_iff (i : Nat) : ∀ (l : List Nat), memN i l = true ↔ i ∈ l := by
 intro l
 induction l with
 | nil => simp [memN]
 | cons j l ih =>
  have e : memN i (j :: l) = match Nat.beq i j with
   | true => true
   | false => memN i l := by
   cases h : Nat.beq i j with
   | true => exact memN_hit h
   | false => exact memN_miss h
  rw [e]
  by_cases h : i = j
  ·subst h; simp [Nat.beq_refl]
  ·have : Nat.beq i j = false := by rw [Bool.eq_false_iff]; intro hb; exact h (Nat.eq_of_beq_eq_true hb)
   simp [this, h, ih]
section
variable {P : Program} {gl : List (Nat × List V)} {N : Nat} {ops : Array Oper} {CO : Call → Prop}
theorem EvD.monoF {F F' : Env → St → List Nat → Prop} (hF : ∀ e s b, F e s b → F' e s b) : ∀ (n : Nat) {listed : Array Bool} {env : Env} {st : St} {L : List (Nat × Nat)} {β : List Nat}, EvD P gl N ops F n listed env st L β → EvD P gl N ops F' n listed env st L β
 | 0, _, _, _, _, _, h => ⟨h.1, hF _ _ _ h.2⟩
 | n + 1, _, _, _, _, _, h => ⟨fun h0 => hF _ _ _ (h.1 h0), fun i hi => (h.2 i hi).mono fun _ _ _ _ ⟨h1, h2⟩ => ⟨h1, EvD.monoF hF n h2⟩⟩
def Rz (gl : List (Nat × List V)) (N : Nat) (env : Env) (st : St) (β : List Nat) : Prop := ∃ B w tmps, Inv gl B w β (lst st) ∧ FrR N β env tmps
theorem lok_spec {j : Nat} {dl : List Nat} : ∀ {L : List (Nat × Nat)}, lok ops j dl L = true → ∀ k pos, (k, pos) ∈ L → waits ops j k = true ∨ pos ∉ dl
 | [], _, k, pos, h => by cases h
 | (k', pos') :: L, h, k, pos, hm => by
  unfold lok at h
  rw [Bool.and_eq_true, Bool.or_eq_true] at h
  rcases List.mem_cons.1 hm with hm | hm
  ·cases hm
   rcases h.1 with h | h
   ·exact .inl h
   ·right
    intro hin
    rw [(memN_iff _ _).2 hin] at h; cases h
  ·exact lok_spec h.2 k pos hm
theorem open_ok (hops : OpsOk P gl CO) (hd : DOk N ops) {i : Nat} {o : Oper} (ho : ops[i]? = some o) {s : Step} (hs : compO P gl ops o = ⟨s⟩) {p : LStep} {call : Call} (hc : CO call) {env : Env} {st : St} {L : List (Nat × Nat)} {K : Env → St → R} {outs : List Dl} {β : List Nat}
  (hok : st.Ok) (hL : ∀ x ∈ L, x.2 < st.n) {n : Nat} {listed : Array Bool}
  (hp : ∀ env' st' β' outs', st'.Ok → Rz gl N env' st' β' → (∀ x ∈ L, x.2 < st'.n) → p call env' st' L K = some outs' → EvD P gl N ops (fun e s _ => Good st' s ∧ KO K outs' e s) n listed env' st' L β')
  (h : openS ops i s p call env st L K = some outs) : StepD P gl N ops i env st β fun e s b => LOK ops i st s L ∧ EvD P gl N ops (fun e' s' _ => Good st s' ∧ KO K outs e' s') n listed e s L b := by
 intro o' ho' B w tmps hi he
 rw [ho] at ho'; cases ho'
 have hdo : ∀ d, o.dst = some d → d < 512 ∧ d < N := fun d hh => hd i o d ho hh
 -- what is to be shown of the state behind the operation
 have fin : ∀ env' st' β' w' tmps', Good st st' → LOK ops i st st' L → Inv gl B w' β' (lst st') → FrR N β' env' tmps' → (∃ outs', p call env' st' L K = some outs' ∧ ∀ d ∈ outs', d ∈ outs) →
   LOK ops i st st' L ∧ EvD P gl N ops (fun e' s' _ => Good st s' ∧ KO K outs e' s') n listed env' st' L β' := by
  rintro env' st' β' w' tmps' g1 g2 g3 g4 ⟨outs', g5, g6⟩
  refine ⟨g2, (hp env' st' β' outs' g1.ok ⟨B, w', tmps', g3, g4⟩ (fun x hx => Nat.lt_of_lt_of_le (hL x hx) g1.n) g5).monoF ?_ n⟩
  rintro e s b ⟨k1, outs2, k2, k3⟩
  exact ⟨g1.trans k1, outs2, k2, fun d hd => g6 d (k3 d hd)⟩
 cases L with
 | nil =>
  obtain ⟨s1, s2⟩ := step_ok (N := N) hops hs call hc env st _ outs hok h B w β tmps hi he
  have lo : ∀ st', LOK ops i st st' [] := fun st' k pos hm => by cases hm
  refine ⟨fun hw Q => Oper.wp_mono ?_ (s1 hw Q), fun hw => ?_⟩
  ·rintro a' w' ⟨v, x, st', β', rfl, ⟨g1, g2⟩, g3, g4, g5⟩
   exact ⟨v, x, st', β', rfl, fin _ _ _ _ _ g1 (lo _) g5 ((he.mono g3).put hdo g4) g2, g3, g4, g5⟩
  ·exact fin _ _ _ _ _ (.refl hok) (lo _) hi (he.put hdo (den_undef _)) (s2 hw)
 | cons x L =>
  have ok1 : (⟨st.n, st.n, st.os, []⟩ : St).Ok := ⟨hok.len, Nat.le_refl _, by intro i h; cases h⟩
  obtain ⟨s1, s2⟩ := step_ok (N := N) hops hs call hc env ⟨st.n, st.n, st.os, []⟩ _ outs ok1 h B w β tmps hi he
  -- the marks taken together
  have mrg : ∀ env' s', Good (⟨st.n, st.n, st.os, []⟩ : St) s' → KO (fun env s' => iff (lok ops i s'.dl (x :: L)) (markAll st.n0 s'.dl st.dl fun dl => p call env ⟨s'.n, st.n0, s'.os, dl⟩ (x :: L) K) none) outs env' s' →
    ∃ st', lst st' = lst s' ∧ Good st st' ∧ LOK ops i st st' (x :: L) ∧ ∃ outs', p call env' st' (x :: L) K = some outs' ∧ ∀ d ∈ outs', d ∈ outs := by
   rintro env' s' g1 ⟨outs', g2, g3⟩
   obtain ⟨g4, g5⟩ := iff_some g2
   obtain ⟨dl', h1, h2, h3, h4⟩ := markAll_eq st.n0 s'.dl st.dl fun dl => p call env' ⟨s'.n, st.n0, s'.os, dl⟩ (x :: L) K
   rw [h1] at g5
   refine ⟨⟨s'.n, st.n0, s'.os, dl'⟩, rfl, ?_, ?_, outs', g5, g3⟩
   ·refine ⟨⟨g1.ok.len, Nat.le_trans hok.n0 g1.n, h4 hok.dl⟩, rfl, g1.n, h2, fun p hp hn => ?_⟩
    exact g1.same p (Nat.lt_of_lt_of_le hp hok.n0) fun hin => hn (h3 p hin hp)
   ·intro k pos hm
    rcases lok_spec g4 k pos hm with h | h
    ·exact .inl h
    ·exact .inr (g1.same pos (hL _ hm) h)
  refine ⟨fun hw Q => Oper.wp_mono ?_ (s1 hw Q), fun hw => ?_⟩
  ·rintro a' w' ⟨v, y, s', β', rfl, ⟨g1, g2⟩, g3, g4, g5⟩
   obtain ⟨st', m1, m2, m3, m4⟩ := mrg _ _ g1 g2
   rw [← m1] at g5
   exact ⟨v, y, st', β', rfl, fin _ _ _ _ _ m2 m3 g5 ((he.mono g3).put hdo g4) m4, g3, g4, g5⟩
  ·obtain ⟨outs', g2, g3⟩ := s2 hw
   obtain ⟨g4, g5⟩ := iff_some g2
   exact fin _ _ _ _ _ (.refl hok) (fun _ _ _ => .inr rfl) hi (he.put hdo (den_undef _)) ⟨outs', g5, g3⟩
theorem rz_put (hd : DOk N ops) {i : Nat} {o : Oper} (ho : ops[i]? = some o) {env : Env} {st : St} {β : List Nat} {x : V} {pos : Option Nat} (hf : Free P gl ops o x pos env st β) (h : Rz gl N env st β) : Rz gl N (putE env o.dst x) st β := by
 obtain ⟨B, w, tmps, hi, he⟩ := h
 have hdo : ∀ d, o.dst = some d → d < 512 ∧ d < N := fun d hh => hd i o d ho hh
 obtain ⟨f1, f2⟩ := hf β st B w tmps (.refl _) hi (fun t _ hlt => he.env t hlt) (fun _ _ => rfl)
 by_cases hw : Region.wanted o (yielded ops tmps.toArray) = true
 ·obtain ⟨v, _, hv⟩ := f1 hw
  exact ⟨B, w, _, hi, he.put hdo hv⟩
 ·rw [Bool.not_eq_true] at hw
  rw [f2 hw]
  exact ⟨B, w, _, hi, he.put hdo (den_undef _)⟩
def PlanS (P : Program) (gl : List (Nat × List V)) (N : Nat) (ops : Array Oper) (K : Env → St → R) (outs : List Dl) (n : Nat) (listed : Array Bool) (env : Env) (st : St) (L : List (Nat × Nat)) (β : List Nat) : Option (List Nat) → Prop
 | none => EvD P gl N ops (fun e s _ => Good st s ∧ KO K outs e s) n listed env st L β
 | some l => ∀ n', n = n' + 1 → ∀ i ∈ l, StepD P gl N ops i env st β fun e s b => LOK ops i st s L ∧ EvD P gl N ops (fun e' s' _ => Good st s' ∧ KO K outs e' s') n' (listed.setIfInBounds i true) e s L b
theorem plan_ok (hops : OpsOk P gl CO) (hpure : PureOk P gl CO) (hd : DOk N ops) (hsel : ∀ (j : Nat) (o : Oper) cs b, ops[j]? = some o → o.op ≠ .select cs b) :
  ∀ (p : Plan) (s : LStep), compPlan P gl ops p = ⟨s⟩ → ∀ n listed o, PlanOk ops p n listed o → ∀ call, CO call → ∀ env st L K outs β, st.Ok → Rz gl N env st β → (∀ x ∈ L, x.2 < st.n) → s call env st L K = some outs →
  PlanS P gl N ops K outs n listed env st L β o := by
 intro p
 induction p with
 | done =>
  rintro s hs n listed o ⟨rfl, hr⟩ call hc env st L K outs β hok hz hL h
  have : s = doneL := by cases hs; rfl
  subst this
  have F : Good st st ∧ KO K outs env st := ⟨.refl hok, .of h⟩
  cases n with
  | zero => exact ⟨hr, F⟩
  | succ n => exact ⟨fun _ => F, fun i hi => by rw [hr] at hi; cases hi⟩
 | fail =>
  intro s hs n listed o _ call hc env st L K outs β hok hz hL h
  have : s = failL := by cases hs; rfl
  subst this; cases h
 | dead =>
  rintro s hs n listed o ho call hc env st L K outs β hok hz hL h
  cases ho
  intro n' _ i hi
  cases hi
 | op i fr p ih =>
  rintro s hs n listed o ⟨rfl, n', oi, rfl, hoi, hpo, hir, hrest⟩ call hc env st L K outs β hok hz hL h
  have hto : ops.toList[i]? = some oi := by rw [Array.getElem?_toList]; exact hoi
  cases hp : compPlan P gl ops p with
  | mk p' =>
  cases fr with
  | false =>
   cases ha : compO P gl ops oi with
   | mk a =>
   have : s = openS ops i a p' := by
    simp only [compPlan, hto, hp, ha] at hs
    cases hs; rfl
   subst this
   simp only [Bool.false_eq_true, if_false] at hrest
   refine ⟨fun h0 => (by rw [h0] at hir; cases hir), fun j hj => ?_⟩
   rw [hrest j hj]
   exact open_ok hops hd hoi ha hc hok hL (fun env' st' β' outs' k1 k2 k3 k4 => ih p' hp n' _ none hpo call hc env' st' L K outs' β' k1 k2 k3 k4) h
  | true =>
   cases ha : compOF P gl ops oi with
   | mk a =>
   simp only [if_true] at hrest
   obtain ⟨hpc, hap⟩ := hrest
   have hs' : s = (compFree i oi.op a p').v := by
    simp only [compPlan, hto, hp, ha] at hs
    rw [hs]
   have hsl : ∀ cs b, oi.op ≠ .select cs b := fun cs b => hsel i oi cs b hoi
   cases hcp : compOp P gl oi.op with
   | none =>
    exfalso
    obtain ⟨u, hu, hus⟩ := withD_spec oi.dst fun u => match compOp P gl oi.op with
     | some s => guardS ops oi u (freeO u s)
     | none => (⟨failS⟩ : Bx0 Step)
    have ha' := hu.symm.trans ha
    simp only [hcp] at ha'
    have : a = failS := by cases ha'; rfl
    subst this
    subst hs'
    cases hop : oi.op <;> rw [hop] at h <;> first
     | (cases h; done)
     | skip
    rename_i t x
    change freeL i (opG x) failS p' call env st L K = some outs at h
    unfold freeL at h
    rcases opG_pure x env with ⟨v, hv⟩ | hv
    ·rw [hv] at h
     cases v <;> first | (cases h; done) | skip
     simp only [] at h
     cases (iff_some h).2
    ·rw [hv] at h; cases h
   | some s0 =>
    obtain ⟨p1, p2, p3⟩ := hpure oi.op s0 hpc hcp
    obtain ⟨B, w0, tmps0, hi0, he0⟩ := hz
    have hz : Rz gl N env st β := ⟨B, w0, tmps0, hi0, he0⟩
    have fin : ∀ pos, IndAt s0 env pos → (∀ q, pos = some q → q < st.n) → a call env st (fun env st => p' call env st ((pos.toList.map fun p => (i, p)) ++ L) K) = some outs →
      EvD P gl N ops (fun e s _ => Good st s ∧ KO K outs e s) (n' + 1) listed env st L β := by
     intro pos hind hpos ha2
     obtain ⟨x, hf, hx⟩ := free_ok (ops := ops) (β := β) hcp p1 hc hind hok he0.env hsl ha ha2
     refine EvD.first hd hsel hoi n' listed env st L β hap hir hf ?_
     refine ih p' hp n' _ none hpo call hc _ st _ K outs β hok (rz_put hd hoi hf hz) ?_ hx
     intro y hy
     rcases List.mem_append.1 hy with hy | hy
     ·cases pos with
      | none => cases hy
      | some q => simp at hy; subst hy; exact hpos q rfl
     ·exact hL y hy
    by_cases hld : ∃ t x, oi.op = .load t x
    ·obtain ⟨t, x, hld⟩ := hld
     subst hs'
     rw [hld] at h
     change freeL i (opG x) a p' call env st L K = some outs at h
     unfold freeL at h
     rcases opG_pure x env with ⟨v, hv⟩ | hv
     ·rw [hv] at h
      have hind := p3 t x hld env v hv
      cases hpv : posV v with
      | none =>
       rw [hpv] at hind
       refine fin none hind (fun q hq => by cases hq) ?_
       cases v <;> first | exact h | cases hpv
      | some j =>
       rw [hpv] at hind
       cases v <;> first | (cases hpv; done) | skip
       cases hpv
       simp only [] at h
       obtain ⟨h1, h2⟩ := iff_some h
       exact fin (some _) hind (fun q hq => by cases hq; exact blt_iff.1 h1) h2
     ·rw [hv] at h; cases h
    ·have hnl : ∀ t x, oi.op ≠ .load t x := fun t x hh => hld ⟨t, x, hh⟩
     refine fin none (p2 hnl env) (fun q hq => by cases hq) ?_
     subst hs'
     cases hop : oi.op <;> rw [hop] at h <;> first
      | exact h
      | exact absurd hop (hnl _ _)
 | alt i p q ihp ihq =>
  rintro s hs n listed o ⟨n', l, rfl, hpp, hpq, ho⟩ call hc env st L K outs β hok hz hL h
  cases hi : ops.toList[i]? with
  | none =>
   simp only [compPlan, hi] at hs
   have : s = failL := by cases hs; rfl
   subst this; cases h
  | some oi =>
   have hoi : ops[i]? = some oi := by rw [← Array.getElem?_toList]; exact hi
   cases hp : compPlan P gl ops p with
   | mk p' =>
   cases hq : compPlan P gl ops q with
   | mk q' =>
   cases ha : compO P gl ops oi with
   | mk a =>
   have : s = altS (openS ops i a p') q' := by
    simp only [compPlan, hi, hp, hq, ha] at hs
    cases hs; rfl
   subst this
   unfold altS at h
   split at h
   ·rename_i oa h1
    split at h
    ·rename_i ob h2
     cases h
     have both : ∀ j ∈ i :: l, StepD P gl N ops j env st β fun e s b => LOK ops j st s L ∧ EvD P gl N ops (fun e' s' _ => Good st s' ∧ KO K (oa ++ ob) e' s') n' (listed.setIfInBounds j true) e s L b := by
      intro j hj
      rcases List.mem_cons.1 hj with rfl | hj
      ·refine (open_ok hops hd hoi ha hc hok hL (fun env' st' β' outs' k1 k2 k3 k4 => ihp p' hp n' _ none hpp call hc env' st' L K outs' β' k1 k2 k3 k4) h1).mono ?_
       rintro e s b _ ⟨k1, k2⟩
       refine ⟨k1, k2.monoF ?_ n'⟩
       rintro e s b ⟨m1, o2, m2, m3⟩
       exact ⟨m1, o2, m2, fun d hd => List.mem_append_left _ (m3 d hd)⟩
      ·refine (ihq q' hq (n' + 1) listed (some l) hpq call hc env st L K ob β hok hz hL h2 n' rfl j hj).mono ?_
       rintro e s b _ ⟨k1, k2⟩
       refine ⟨k1, k2.monoF ?_ n'⟩
       rintro e s b ⟨m1, o2, m2, m3⟩
       exact ⟨m1, o2, m2, fun d hd => List.mem_append_right _ (m3 d hd)⟩
     cases o with
     | none =>
      exact ⟨fun h0 => (by have := ho.1; rw [h0] at this; cases this), fun j hj => both j (ho.2 j hj)⟩
     | some l' =>
      have hl : l' = i :: l := ho
      subst hl
      intro n2 hn2 j hj
      cases hn2
      exact both j hj
    ·cases h
   ·cases h
end
end
end Go.Ev
namespace Go.Ev
open Go
noncomputable section
theorem norefL_all : ∀ (l : List V), norefL l = true ↔ ∀ x ∈ l, noref1 x = true
 | [] => by simp [norefL]
 | x :: l => by
  have e : norefL (x :: l) = (noref1 x && norefL l) := by
   cases h : noref1 x with
   | true => show @Bool.casesOn (fun _ => Bool) (noref1 x) false (norefL l) = _; rw [h]; rfl
   | false => show @Bool.casesOn (fun _ => Bool) (noref1 x) false (norefL l) = _; rw [h]; rfl
  rw [e, Bool.and_eq_true, norefL_all l]
  simp
section
variable {β β' : List Nat} {w : World}
theorem Den.noref {p : V} {v : Value} (h : Den β p v) (hn : noref1 p = true) : Den β' p v := by
 cases h <;> first
  | (cases hn; done)
  | exact .any ..
  | exact .cell _ (by assumption)
  | exact .bool ..
  | exact .int ..
  | exact .str ..
  | exact .nilptr
  | exact .gptr ..
  | exact .nilsl
  | exact .esl ..
  | exact .nilmap
  | exact .nilfn
  | exact .niliface
theorem DenL.noref {cs : List V} {vs : List Value} (h : DenL β cs vs) (hn : norefL cs = true) : DenL β' cs vs :=
 ⟨h.1, fun j c v hc hv => (h.2 j c v hc hv).noref ((norefL_all cs).1 hn c (List.mem_of_getElem? hc))⟩
def RenOk (D : Nat → Prop) (r : Nat → Nat) (β β' : List Nat) : Prop := ∀ (i b : Nat), D i → β[i]? = some b → β'[r i]? = some b
theorem Den.ren {D : Nat → Prop} {r : Nat → Nat} (hr : RenOk D r β β') : ∀ (n : Nat) {p : V} {v : Value}, Den β p v → (∀ i ∈ refsN n p, D i) → Den β' (renN r n p) v := by
 intro n
 induction n with
 | zero => intro p v _ _; exact .any _
 | succ n ih =>
  intro p v hd h
  have lst : ∀ (cs : List V) (vs : List Value), cs.length = vs.length → (∀ (j : Nat) c v, cs[j]? = some c → vs[j]? = some v → Den β c v) → (∀ c ∈ cs, ∀ i ∈ refsN n c, D i) →
    (cs.map (renN r n)).length = vs.length ∧ (∀ (j : Nat) c v, (cs.map (renN r n))[j]? = some c → vs[j]? = some v → Den β' c v) := by
   intro cs vs hl hd ha
   refine ⟨by simp [hl], fun j c v hc hv => ?_⟩
   rw [List.getElem?_map] at hc
   cases hx : cs[j]? with
   | none => rw [hx] at hc; cases hc
   | some x => rw [hx] at hc; cases hc; exact ih (hd j x v hx hv) (ha x (List.mem_of_getElem? hx))
  cases hd <;> simp only [refsN, renN, refs1] at h ⊢
  case any => exact .any ..
  case cell h1 => exact .cell _ h1
  case bool => exact .bool ..
  case int => exact .int ..
  case str => exact .str ..
  case nilptr => exact .nilptr
  case ptr hb => exact .ptr _ _ _ (hr _ _ (h _ (by simp)) hb)
  case gptr => exact .gptr ..
  case nilsl => exact .nilsl
  case esl => exact .esl ..
  case sl k i off len cap b c h1 h2 h3 =>
   cases cap with
   | known n => exact .sl _ _ _ _ _ _ _ (hr _ _ (h _ (by simp)) h1) h2 h3
   | ghost ci => exact .sl _ _ _ _ _ _ _ (hr _ _ (h _ (by simp)) h1) (hr _ _ (h _ (by simp)) h2) h3
  case nilmap => exact .nilmap
  case map hb => exact .map _ _ (hr _ _ (h _ (by simp)) hb)
  case nilfn => exact .nilfn
  case fn vs us h1 h2 h3 h4 =>
   obtain ⟨g1, g2⟩ := lst _ _ h1 h2 (fun c hc i hi => h i (List.mem_append_left _ (List.mem_flatMap.2 ⟨c, hc, hi⟩)))
   obtain ⟨g3, g4⟩ := lst _ _ h3 h4 (fun c hc i hi => h i (List.mem_append_right _ (List.mem_flatMap.2 ⟨c, hc, hi⟩)))
   exact .fn _ _ _ _ _ g1 g2 g3 g4
  case niliface => exact .niliface
  case iface h1 => exact .iface _ _ _ (ih h1 h)
  case agg vs h1 h2 h3 => obtain ⟨g1, g2⟩ := lst _ _ h1 h3 (fun c hc i hi => h i (List.mem_flatMap.2 ⟨c, hc, hi⟩)); exact .agg _ _ g1 h2 g2
  case tup vs h1 h2 => obtain ⟨g1, g2⟩ := lst _ _ h1 h2 (fun c hc i hi => h i (List.mem_flatMap.2 ⟨c, hc, hi⟩)); exact .tup _ _ g1 g2
def renV (r : Nat → Nat) (v : V) : V := match norefV v with
 | true => v
 | false => renN r 5 v
theorem renA_eq {γ : Type} (r : Nat → Nat) (v : V) (k : V → γ) : renA r v k = k (renV r v) := by
 unfold renA renV
 cases norefV v with
 | true => rfl
 | false => exact fV_eq _ _
def renLL (r : Nat → Nat) (cs : List V) : List V := match norefL cs with
 | true => cs
 | false => cs.map (renN r 3)
theorem renLK_eq {γ : Type} (r : Nat → Nat) (cs : List V) (k : List V → γ) : renLK r cs k = k (renLL r cs) := by
 unfold renLK renLL
 cases norefL cs with
 | true => rfl
 | false => exact mapK_eq (renN r 3) (fun x k => fV2_eq _ _) _ _
def renO (r : Nat → Nat) (o : O) : O := match o with
 | .box cs => .box (renLL r cs)
 | .vec kk ci cs => .vec kk (r ci) (renLL r cs)
 | .kmap es c => .kmap (es.map fun e => (e.1, e.2.1, renN r 3 e.2.2)) c
 | .iter m s l c => .iter (m.map r) s l c
 | .dead => .dead
theorem fE_eq {γ : Type} (e : Nat × V × V) (k : (Nat × V × V) → γ) : fE e k = k e := by
 unfold fE
 simp only [fNat_eq, fV2_eq]
theorem renK_eq {γ : Type} (r : Nat → Nat) (o : O) (k : O → γ) : renK r o k = k (renO r o) := by
 cases o with
 | dead => rfl
 | box cs =>
  change renLK r cs (fun cs => k (.box cs)) = _
  rw [renLK_eq]; rfl
 | vec kk ci cs =>
  change fNat (r ci) (fun ci => renLK r cs fun cs => k (.vec kk ci cs)) = _
  rw [fNat_eq, renLK_eq]; rfl
 | kmap es c =>
  change mapK fE (es.map fun e => (e.1, e.2.1, renN r 3 e.2.2)) (fun es => k (.kmap es c)) = _
  rw [mapK_eq (fun e => e) (fun x k => fE_eq x k)]
  simp only [renO, List.map_map]; rfl
 | iter m s l c => cases m <;> rfl
theorem renO_live (r : Nat → Nat) (o : O) : (renO r o).live = o.live := by cases o <;> rfl
theorem DenL.renLL {D : Nat → Prop} {r : Nat → Nat} (hr : RenOk D r β β') {cs : List V} {vs : List Value} (h : DenL β cs vs) (hd : ∀ i ∈ refsC cs, D i) : DenL β' (renLL r cs) vs := by
 unfold Ev.renLL
 unfold refsC at hd
 cases hn : norefL cs with
 | true => exact h.noref hn
 | false =>
  rw [hn] at hd
  refine ⟨by simp [h.1], fun j c v hc hv => ?_⟩
  simp only [] at hc
  rw [List.getElem?_map] at hc
  cases hx : cs[j]? with
  | none => rw [hx] at hc; cases hc
  | some x => rw [hx] at hc; cases hc; exact (h.2 j x v hx hv).ren hr 3 fun i hi => hd i (List.mem_flatMap.2 ⟨x, List.mem_of_getElem? hx, hi⟩)
theorem renLL_len (r : Nat → Nat) (cs : List V) : (renLL r cs).length = cs.length := by
 unfold renLL
 cases norefL cs <;> simp
theorem Den.renV {D : Nat → Prop} {r : Nat → Nat} (hr : RenOk D r β β') {p : V} {v : Value} (h : Den β p v) (hd : ∀ i ∈ refsA p, D i) : Den β' (renV r p) v := by
 unfold Ev.renV
 unfold refsA at hd
 cases hn : norefV p with
 | true =>
  simp only []
  cases p <;> first
   | exact h.noref hn
   | skip
  case agg cs =>
   obtain ⟨vs, rfl, h1, h2⟩ := h.agg_inv
   exact (h1.noref hn).agg h2
  case tup cs =>
   obtain ⟨vs, rfl, h1⟩ := h.tup_inv
   exact (h1.noref hn).tup
 | false =>
  rw [hn] at hd
  exact h.ren hr 5 hd
theorem ObjRel.ren {D : Nat → Prop} {r : Nat → Nat} (hr : RenOk D r β β') {b : Nat} {o : O} (h : ObjRel β w b o) (hd : ∀ i ∈ refsO o, D i) : ObjRel β' w b (renO r o) := by
 cases o with
 | dead => trivial
 | box cs =>
  obtain ⟨vs, T, fr, h1, h2, h3, h4⟩ := h
  exact ⟨vs, T, fr, h1, h2.renLL hr hd, h3, h4⟩
 | vec k ci cs =>
  obtain ⟨c, vs, T, fr, h0, h1, h2, h3, h4, h5, h6⟩ := h
  have hd' : ∀ i ∈ refsC cs, D i := fun i hi => hd i (List.mem_cons_of_mem _ hi)
  refine ⟨c, vs, T, fr, hr _ _ (hd ci (by simp [refsO])) h0, h1, h2, by rw [renLL_len]; exact h3, ?_, by rw [renLL_len]; exact h5, h6⟩
  rw [renLL_len]
  exact h4.renLL hr hd'
 | kmap es cl =>
  obtain ⟨mes, h1, h2, h3⟩ := h
  refine ⟨mes, h1, by simp [h2], fun j bn k v hj => ?_⟩
  rw [List.getElem?_map] at hj
  cases hx : es[j]? with
  | none => rw [hx] at hj; cases hj
  | some x =>
   rw [hx] at hj
   cases hj
   obtain ⟨e, g1, g0, g2, g3⟩ := h3 j x.1 x.2.1 x.2.2 hx
   exact ⟨e, g1, g0, g2, g3.ren hr 3 fun i hi => hd i (List.mem_flatMap.2 ⟨x, List.mem_of_getElem? hx, hi⟩)⟩
 | iter m s l c =>
  cases m with
  | none => exact h
  | some m => obtain ⟨mb, h1, h2⟩ := h; exact ⟨mb, hr m mb (hd m (by simp [refsO])) h1, h2⟩
theorem renN_back {r r' : Nat → Nat} : ∀ (n : Nat) (p : V), deepN n p = true → (∀ i ∈ refsN n p, r' (r i) = i) → renN r' n (renN r n p) = p := by
 intro n
 induction n with
 | zero => intro p h; cases h
 | succ n ih =>
  intro p h hr
  have lst : ∀ cs : List V, cs.all (deepN n) = true → (∀ c ∈ cs, ∀ i ∈ refsN n c, r' (r i) = i) → (cs.map (renN r n)).map (renN r' n) = cs := by
   intro cs h1 h2
   rw [List.map_map]
   conv => rhs; rw [← List.map_id cs]
   refine List.map_congr_left fun c hc => ?_
   exact ih c (List.all_eq_true.1 h1 c hc) (h2 c hc)
  cases p <;> simp only [renN, refsN, refs1, deepN] at h hr ⊢
  case ptr i o => rw [hr i (by simp)]
  case sl k i o l c =>
   cases c with
   | known n => simp only [renC]; rw [hr i (by simp)]
   | ghost c => simp only [renC]; rw [hr i (by simp), hr c (by simp)]
  case map i => rw [hr i (by simp)]
  case fn f a b =>
   rw [Bool.and_eq_true] at h
   rw [lst a h.1 fun c hc i hi => hr i (List.mem_append_left _ (List.mem_flatMap.2 ⟨c, hc, hi⟩)), lst b h.2 fun c hc i hi => hr i (List.mem_append_right _ (List.mem_flatMap.2 ⟨c, hc, hi⟩))]
  case iface t v => rw [ih v h hr]
  case agg cs => rw [lst cs h fun c hc i hi => hr i (List.mem_flatMap.2 ⟨c, hc, hi⟩)]
  case tup cs => rw [lst cs h fun c hc i hi => hr i (List.mem_flatMap.2 ⟨c, hc, hi⟩)]
theorem noref1_ren (r : Nat → Nat) (n : Nat) (p : V) : noref1 (renN r (n + 1) p) = noref1 p := by cases p <;> rfl
theorem renLL_back {r r' : Nat → Nat} {cs : List V} (h : deepC cs = true) (hr : ∀ i ∈ refsC cs, r' (r i) = i) : renLL r' (renLL r cs) = cs := by
 unfold deepC at h
 unfold refsC at hr
 cases hn : norefL cs with
 | true =>
  have e : renLL r cs = cs := by unfold renLL; rw [hn]
  rw [e]
  unfold renLL; rw [hn]
 | false =>
  rw [hn] at h hr
  have e : renLL r cs = cs.map (renN r 3) := by unfold renLL; rw [hn]
  rw [e]
  have hn2 : norefL (cs.map (renN r 3)) = false := by
   rw [Bool.eq_false_iff] at hn ⊢
   intro hh
   refine hn ((norefL_all cs).2 fun x hx => ?_)
   have := (norefL_all _).1 hh _ (List.mem_map.2 ⟨x, hx, rfl⟩)
   rwa [noref1_ren] at this
  unfold renLL
  rw [hn2]
  simp only [List.map_map]
  conv => rhs; rw [← List.map_id cs]
  refine List.map_congr_left fun c hc => ?_
  exact renN_back 3 c (List.all_eq_true.1 h c hc) fun i hi => hr i (List.mem_flatMap.2 ⟨c, hc, hi⟩)
theorem renO_back {r r' : Nat → Nat} {o : O} (h : deepO o = true) (hr : ∀ i ∈ refsO o, r' (r i) = i) : renO r' (renO r o) = o := by
 cases o with
 | dead => rfl
 | box cs => simp only [renO]; rw [renLL_back h hr]
 | vec k ci cs => simp only [renO]; rw [renLL_back h fun i hi => hr i (List.mem_cons_of_mem _ hi), hr ci (by simp [refsO])]
 | kmap es c =>
  simp only [renO, List.map_map]
  congr 1
  conv => rhs; rw [← List.map_id es]
  refine List.map_congr_left fun e he => ?_
  have := renN_back (r := r) (r' := r') 3 e.2.2 (List.all_eq_true.1 h e he) fun i hi => hr i (List.mem_flatMap.2 ⟨e, he, hi⟩)
  simp only [Function.comp, this, id]
 | iter m s l c =>
  cases m with
  | none => rfl
  | some m => simp only [renO, Option.map_some]; rw [hr m (by simp [refsO])]
theorem Den.both {β0 β2 : List Nat} (h1 : Pre β0 β) (h2 : Pre β0 β2) : ∀ {p : V} {v v0 : Value}, Den β0 p v0 → Den β p v → Den β2 p v := by
 intro p v v0 h0 h
 have bb : ∀ {i b0 b : Nat}, β0[i]? = some b0 → β[i]? = some b → β2[i]? = some b := fun {i b0 b} g0 g => by
  rw [h1 i b0 g0] at g; cases g; exact h2 i b0 g0
 induction h generalizing v0 with
 | any v => exact .any v
 | cell v h => exact .cell v h
 | bool => exact .bool ..
 | int => exact .int ..
 | str => exact .str ..
 | nilptr => exact .nilptr
 | ptr i off b hb => cases h0 with | ptr _ _ b0 g => exact .ptr _ _ _ (bb g hb)
 | gptr => exact .gptr ..
 | nilsl => exact .nilsl
 | esl => exact .esl ..
 | sl k i off len cap b c hb hc hl =>
  cases h0 with
  | sl _ _ _ _ _ b0 c0 g1 g2 g3 =>
   cases cap with
   | known n => exact .sl _ _ _ _ _ _ _ (bb g1 hb) hc hl
   | ghost ci => exact .sl _ _ _ _ _ _ _ (bb g1 hb) (bb g2 hc) hl
 | nilmap => exact .nilmap
 | map i b hb => cases h0 with | map _ b0 g => exact .map _ _ (bb g hb)
 | nilfn => exact .nilfn
 | fn f as bs vs us e1 e2 e3 e4 ih1 ih2 =>
  cases h0 with
  | fn _ _ _ vs0 us0 g1 g2 g3 g4 =>
   have get : ∀ {as : List V} {vs0 : List Value}, as.length = vs0.length → ∀ {j : Nat} {c}, as[j]? = some c → ∃ v0, vs0[j]? = some v0 := fun {as vs0} e {j c} hj =>
    ⟨_, List.getElem?_eq_getElem (by rw [← e]; exact (List.getElem?_eq_some_iff.1 hj).1)⟩
   refine .fn _ _ _ _ _ e1 (fun j c v hc hv => ?_) e3 fun j c v hc hv => ?_
   ·obtain ⟨v0, hv0⟩ := get g1 hc; exact ih1 j c v hc hv (g2 j c v0 hc hv0)
   ·obtain ⟨v0, hv0⟩ := get g3 hc; exact ih2 j c v hc hv (g4 j c v0 hc hv0)
 | niliface => exact .niliface
 | iface t v u h ih => cases h0 with | iface _ _ u0 g => exact .iface _ _ _ (ih g)
 | agg cs vs e1 e2 e3 ih =>
  cases h0 with
  | agg _ vs0 g1 g2 g3 =>
   refine .agg _ _ e1 e2 fun j c v hc hv => ?_
   have hlt : j < vs0.length := by rw [← g1]; exact (List.getElem?_eq_some_iff.1 hc).1
   exact ih j c v hc hv (g3 j c _ hc (List.getElem?_eq_getElem hlt))
 | tup cs vs e1 e2 ih =>
  cases h0 with
  | tup _ vs0 g1 g2 =>
   refine .tup _ _ e1 fun j c v hc hv => ?_
   have hlt : j < vs0.length := by rw [← g1]; exact (List.getElem?_eq_some_iff.1 hc).1
   exact ih j c v hc hv (g2 j c _ hc (List.getElem?_eq_getElem hlt))
theorem DenL.both {β0 β2 : List Nat} (h1 : Pre β0 β) (h2 : Pre β0 β2) {cs : List V} {vs vs0 : List Value} (h0 : DenL β0 cs vs0) (h : DenL β cs vs) : DenL β2 cs vs :=
 ⟨h.1, fun j c v hc hv => by
  have hlt : j < vs0.length := by rw [← h0.1]; exact (List.getElem?_eq_some_iff.1 hc).1
  exact Den.both h1 h2 (h0.2 j c _ hc (List.getElem?_eq_getElem hlt)) (h.2 j c v hc hv)⟩
theorem ObjRel.both {β0 β2 : List Nat} (h1 : Pre β0 β) (h2 : Pre β0 β2) {w0 : World} {b : Nat} {o : O} (h0 : ObjRel β0 w0 b o) (h : ObjRel β w b o) : ObjRel β2 w b o := by
 have bb : ∀ {i b0 b : Nat}, β0[i]? = some b0 → β[i]? = some b → β2[i]? = some b := fun {i b0 b} g0 g => by
  rw [h1 i b0 g0] at g; cases g; exact h2 i b0 g0
 cases o with
 | dead => trivial
 | box cs =>
  obtain ⟨vs0, T0, fr0, _, g2, _⟩ := h0
  obtain ⟨vs, T, fr, e1, e2, e3, e4⟩ := h
  exact ⟨vs, T, fr, e1, g2.both h1 h2 e2, e3, e4⟩
 | vec k ci cs =>
  obtain ⟨c0, vs0, T0, fr0, g0, g1, g2, g3, g4, _⟩ := h0
  obtain ⟨c, vs, T, fr, e0, e1, e2, e3, e4, e5, e6⟩ := h
  exact ⟨c, vs, T, fr, bb g0 e0, e1, e2, e3, g4.both h1 h2 e4, e5, e6⟩
 | kmap es cl =>
  obtain ⟨mes0, g1, g2, g3⟩ := h0
  obtain ⟨mes, e1, e2, e3⟩ := h
  refine ⟨mes, e1, e2, fun j bn k v hj => ?_⟩
  obtain ⟨x0, _, _, _, y0⟩ := g3 j bn k v hj
  obtain ⟨x, z1, z2, z3, z4⟩ := e3 j bn k v hj
  exact ⟨x, z1, z2, z3, y0.both h1 h2 z4⟩
 | iter m s l c =>
  cases m with
  | none => exact h
  | some m => obtain ⟨mb0, g1, g2⟩ := h0; obtain ⟨mb, e1, e2⟩ := h; exact ⟨mb, bb g1 e1, e2⟩
end
end
end Go.Ev
