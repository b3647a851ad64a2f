/-
 What a stretch of code has done, told of the objects that were there at its beginning.
 Regions.
 Bodies.
-/
import Derived.Test.YtokclomhkggikaaGreatDoorVEvBits
import Derived.LoopN
namespace Go.Ev
open Go
noncomputable section
theorem refsL_spec {α : Type} (f : α → List Nat) : ∀ (l : List α) (acc : List Nat) (k : List Nat → R), ∃ rs, refsL f l acc k = k rs ∧ (∀ x ∈ l, ∀ i ∈ f x, i ∈ rs) ∧ ∀ i ∈ acc, i ∈ rs
 | [], acc, k => ⟨acc, rfl, fun x hx => (by cases hx), fun _ h => h⟩
 | x :: l, acc, k => by
  obtain ⟨rs, h1, h2, h3⟩ := refsL_spec f l acc fun acc => appK (f x) acc k
  refine ⟨f x ++ rs, ?_, fun y hy i hi => ?_, fun i hi => List.mem_append_right _ (h3 i hi)⟩
  ·unfold refsL; rw [h1, appK_eq]
  ·rcases List.mem_cons.1 hy with rfl | hy
   ·exact List.mem_append_left _ hi
   ·exact List.mem_append_right _ (h2 y hy i hi)
def objAt (st : St) (i : Nat) : O := ((lst st)[i]?).getD .dead
theorem reach_spec {st : St} (hok : st.Ok) {b : Nat} : ∀ (n : Nat) (todo sel : List Nat) (k : List Nat → R) (outs : List Dl), sel.Nodup → reach st b n todo sel k = some outs →
  ∃ sel', k sel' = some outs ∧ sel'.Nodup ∧ (∀ i ∈ sel, i ∈ sel') ∧ (∀ i ∈ todo, i < b ∨ i ∈ sel') ∧ ∀ i ∈ sel', i ∈ sel ∨ (b ≤ i ∧ i < st.n ∧ ∀ j ∈ refsO (objAt st i), j < b ∨ j ∈ sel')
 | 0, _, _, _, _, _, h => by cases h
 | n + 1, [], sel, k, outs, hn, h => ⟨sel, h, hn, fun _ h => h, fun i hi => (by cases hi), fun i hi => .inl hi⟩
 | n + 1, i :: todo, sel, k, outs, hn, h => by
  unfold reach at h
  simp only [] at h
  cases hc : (Nat.blt i b || memN i sel) with
  | true =>
   rw [hc] at h
   obtain ⟨sel', h1, h2, h3, h4, h5⟩ := reach_spec hok n todo sel k outs hn h
   refine ⟨sel', h1, h2, h3, fun j hj => ?_, h5⟩
   rcases List.mem_cons.1 hj with rfl | hj
   ·rw [Bool.or_eq_true] at hc
    rcases hc with hc | hc
    ·exact .inl (blt_iff.1 hc)
    ·exact .inr (h3 _ ((memN_iff _ _).1 hc))
   ·exact h4 j hj
  | false =>
   rw [hc] at h
   rw [Bool.or_eq_false_iff] at hc
   have hib : ¬ i < b := fun hh => by rw [blt_iff.2 hh] at hc; cases hc.1
   have his : i ∉ sel := fun hh => by rw [(memN_iff _ _).2 hh] at hc; cases hc.2
   have h' : iff (Nat.blt i st.n) (st.obj i fun o => appK (refsO o) todo fun todo => appK sel [i] fun sel => reach st b n todo sel k) none = some outs := h
   obtain ⟨h0, h'⟩ := iff_some h'
   rw [obj_eq hok, appK_eq, appK_eq] at h'
   have hn' : (sel ++ [i]).Nodup := by
    rw [List.nodup_append]
    refine ⟨hn, by simp, fun x hx y hy hxy => ?_⟩
    rw [List.mem_singleton] at hy
    subst hy; subst hxy; exact his hx
   obtain ⟨sel', h1, h2, h3, h4, h5⟩ := reach_spec hok n _ _ k outs hn' h'
   refine ⟨sel', h1, h2, fun j hj => h3 j (List.mem_append_left _ hj), fun j hj => ?_, fun j hj => ?_⟩
   ·rcases List.mem_cons.1 hj with rfl | hj
    ·exact .inr (h3 _ (by simp))
    ·exact h4 j (List.mem_append_right _ hj)
   ·rcases h5 j hj with h | h
    ·rcases List.mem_append.1 h with h | h
     ·exact .inl h
     ·rw [List.mem_singleton] at h
      subst h
      exact .inr ⟨by omega, blt_iff.1 h0, fun m hm => h4 m (List.mem_append_left _ hm)⟩
    ·exact .inr h
theorem posIn_spec {i : Nat} : ∀ {sel : List Nat}, i ∈ sel → sel[posIn i sel]? = some i
 | [], h => by cases h
 | j :: l, h => by
  unfold posIn
  cases hb : Nat.beq i j with
  | true => have := Nat.eq_of_beq_eq_true hb; subst this; rfl
  | false =>
   have hne := Nat.ne_of_beq_eq_false hb
   rcases List.mem_cons.1 h with h | h
   ·exact absurd h hne
   ·simpa using posIn_spec h
theorem insN_mem (i x : Nat) : ∀ (l : List Nat), x ∈ insN i l ↔ x = i ∨ x ∈ l
 | [] => by simp [insN]
 | j :: l => by
  unfold insN
  cases Nat.ble i j with
  | true => simp
  | false =>
   simp only [List.mem_cons]
   rw [insN_mem i x l]
   constructor
   ·rintro (h | h | h)
    ·exact .inr (.inl h)
    ·exact .inl h
    ·exact .inr (.inr h)
   ·rintro (h | h | h)
    ·exact .inr (.inl h)
    ·exact .inl h
    ·exact .inr (.inr h)
theorem sortN_mem (x : Nat) : ∀ (l : List Nat), x ∈ sortN l ↔ x ∈ l
 | [] => by simp [sortN]
 | i :: l => by unfold sortN; rw [insN_mem, sortN_mem x l]; simp
def setL : List O → List (Nat × O) → List O
 | l, [] => l
 | l, x :: xs => setL (l.set x.1 x.2) xs
def merge (os : List O) (d : Dl) : List O := setL os d.old ++ d.new
theorem setL_len : ∀ (xs : List (Nat × O)) (l : List O), (setL l xs).length = l.length
 | [], l => rfl
 | x :: xs, l => by unfold setL; rw [setL_len xs]; simp
theorem setL_get (g : Nat → O) : ∀ (is : List Nat) (l : List O) (p : Nat), p < l.length → (setL l (is.map fun i => (i, g i)))[p]? = if p ∈ is then some (g p) else l[p]?
 | [], l, p, _ => by simp [setL]
 | i :: is, l, p, hp => by
  simp only [List.map_cons, setL]
  rw [setL_get g is _ p (by simpa using hp)]
  by_cases h1 : p ∈ is
  ·simp [h1]
  ·rw [if_neg h1, List.getElem?_set]
   by_cases h2 : i = p
   ·subst h2; simp [hp]
   ·rw [if_neg h2, if_neg (by simp [h1]; exact fun hh => h2 hh.symm)]
section
variable {gl : List (Nat × List V)} {B : Base} {w : World} {β β' : List Nat}
theorem delta_ok {s : St} {vs : List V} {vals : List Value} {os : List O} {k : Dl → R} {outs : List Dl} (hs : s.Ok) (hn0 : s.n0 = os.length) (hbase : ∀ p, p < os.length → p ∉ s.dl → (lst s)[p]? = os[p]?)
  (h0 : ∀ (p b : Nat) o, β[p]? = some b → os[p]? = some o → ∃ w0, ObjRel β w0 b o) (hβ : β.length = os.length) (hp : Pre β β') (hBp : Pre B.β β) (hi : Inv gl B w β' (lst s)) (hd : DenL β' vs vals) (h : deltaK s vs k = some outs) :
  ∃ d γ, k d = some outs ∧ γ.length = d.new.length ∧ (∀ x ∈ d.old, x.1 < os.length) ∧ Inv gl B w (β ++ γ) (merge os d) ∧ DenL (β ++ γ) d.vs vals := by
 unfold deltaK at h
 rw [spK_eq] at h
 obtain ⟨rs1, e1, r1, _⟩ := refsL_spec refsA vs [] fun rs =>
  refsL (fun i => s.obj (β := List Nat) i refsO) (sortN s.dl) rs fun rs =>
  reach s s.n0 100000 rs [] fun sel =>
  mapK (fun v k => renA (renTo s.n0 sel) v k) vs fun vs =>
  mapK (fun i k => s.obj i fun o => renK (renTo s.n0 sel) o k) sel fun new =>
  mapK (fun i k => s.obj i fun o => renK (renTo s.n0 sel) o fun o => k (i, o)) (sortN s.dl) fun old => k ⟨vs, new, old⟩
 replace h := e1.symm.trans h
 obtain ⟨rs2, e2, r2, r3⟩ := refsL_spec (fun i => s.obj (β := List Nat) i refsO) (sortN s.dl) rs1 fun rs =>
  reach s s.n0 100000 rs [] fun sel =>
  mapK (fun v k => renA (renTo s.n0 sel) v k) vs fun vs =>
  mapK (fun i k => s.obj i fun o => renK (renTo s.n0 sel) o k) sel fun new =>
  mapK (fun i k => s.obj i fun o => renK (renTo s.n0 sel) o fun o => k (i, o)) (sortN s.dl) fun old => k ⟨vs, new, old⟩
 replace h := e2.symm.trans h
 obtain ⟨sel, h, hnd, _, ht, hcl⟩ := reach_spec hs _ _ _ _ _ List.nodup_nil h
 rw [hn0] at h ht hcl
 generalize hn : os.length = n at *
 have hsel : ∀ i ∈ sel, n ≤ i ∧ i < s.n ∧ ∀ j ∈ refsO (objAt s i), j < n ∨ j ∈ sel := fun i hi => by
  rcases hcl i hi with h | h
  ·cases h
  ·exact h
 let r : Nat → Nat := renTo n sel
 rw [mapK_eq (renV r) (fun x k => renA_eq r x k), mapK_eq (fun i => renO r (objAt s i)) (fun i k => by rw [obj_eq hs, renK_eq]; rfl), mapK_eq (fun i => (i, renO r (objAt s i))) (fun i k => by rw [obj_eq hs, renK_eq]; rfl)] at h
 have hlen := lst_len hs
 have hlen' : β'.length = s.n := by rw [hi.len, hlen]
 -- the new objects' blocks
 let γ : List Nat := sel.map fun i => β'.getD i 0
 have hγ : ∀ (j i : Nat), sel[j]? = some i → γ[j]? = β'[i]? := fun j i hj => by
  have hlt : i < β'.length := by rw [hlen']; exact (hsel i (List.mem_of_getElem? hj)).2.1
  simp [γ, hj, List.getD, hlt]
 have hβγ1 : ∀ i, i < n → (β ++ γ)[i]? = β'[i]? := fun i hi' => by
  have hlt : i < β.length := by omega
  rw [List.getElem?_append_left hlt, List.getElem?_eq_getElem hlt, hp i _ (List.getElem?_eq_getElem hlt)]
 have hβγ2 : ∀ j, (β ++ γ)[n + j]? = γ[j]? := fun j => by
  rw [List.getElem?_append_right (by omega)]; congr 1; omega
 have ren : RenOk (fun i => i < n ∨ i ∈ sel) r β' (β ++ γ) := by
  intro i b hD hb
  show (β ++ γ)[renTo n sel i]? = some b
  unfold renTo
  cases hc : Nat.blt i n with
  | true => rw [hβγ1 i (blt_iff.1 hc)]; exact hb
  | false =>
   have hni := blt_false.1 hc
   have hm : i ∈ sel := hD.resolve_left hni
   simp only []
   rw [hβγ2, hγ _ _ (posIn_spec hm)]; exact hb
 have hdl : ∀ i ∈ sortN s.dl, i < n := fun i hi' => by have := hs.dl i ((sortN_mem _ _).1 hi'); omega
 refine ⟨_, γ, h, by simp [γ], ?_, ?_, ?_⟩
 ·intro x hx
  obtain ⟨i, hi', rfl⟩ := List.mem_map.1 hx
  exact hdl i hi'
 ·have mget1 : ∀ i, i < n → (merge os ⟨vs.map (renV r), sel.map fun i => renO r (objAt s i), (sortN s.dl).map fun i => (i, renO r (objAt s i))⟩)[i]? = if i ∈ sortN s.dl then some (renO r (objAt s i)) else os[i]? := fun i hi' => by
   unfold merge
   rw [List.getElem?_append_left (by rw [setL_len]; omega)]
   exact setL_get (fun i => renO r (objAt s i)) _ _ _ (by omega)
  have mget2 : ∀ j, (merge os ⟨vs.map (renV r), sel.map fun i => renO r (objAt s i), (sortN s.dl).map fun i => (i, renO r (objAt s i))⟩)[n + j]? = (sel[j]?).map fun i => renO r (objAt s i) := fun j => by
   unfold merge
   rw [List.getElem?_append_right (by rw [setL_len]; omega), setL_len, hn, Nat.add_sub_cancel_left, List.getElem?_map]
  generalize merge os ⟨vs.map (renV r), sel.map fun i => renO r (objAt s i), (sortN s.dl).map fun i => (i, renO r (objAt s i))⟩ = mg at *
  -- where each comes from
  have src : ∀ (i b : Nat) o, (β ++ γ)[i]? = some b → mg[i]? = some o → ∃ i0, β'[i0]? = some b ∧ (o.live = true → liveAt (lst s) i0) ∧ ObjRel (β ++ γ) w b o ∧ ((i < n ∧ i0 = i) ∨ ∃ j, i = n + j ∧ sel[j]? = some i0) := by
   intro i b o hb ho
   by_cases hi' : i < n
   ·rw [hβγ1 i hi'] at hb
    rw [mget1 i hi'] at ho
    refine ⟨i, hb, ?_⟩
    have hlt : i < (lst s).length := by rw [← hi.len]; exact (List.getElem?_eq_some_iff.1 hb).1
    have hoi : (lst s)[i]? = some (objAt s i) := by unfold objAt; rw [List.getElem?_eq_getElem hlt]; rfl
    by_cases hm : i ∈ sortN s.dl
    ·rw [if_pos hm] at ho
     cases ho
     refine ⟨fun hl => ⟨_, hoi, by rwa [renO_live] at hl⟩, (hi.obj i b _ hb hoi).ren ren fun j hj => ?_, .inl ⟨hi', rfl⟩⟩
     refine ht j (r2 i hm j ?_)
     rw [obj_eq hs]; exact hj
    ·rw [if_neg hm] at ho
     have he := hbase i hi' fun hh => hm ((sortN_mem _ _).2 hh)
     rw [ho] at he
     have hβi : β[i]? = some b := by
      have := hβγ1 i hi'
      rw [List.getElem?_append_left (by omega)] at this
      rw [this]; exact hb
     obtain ⟨w0, g0⟩ := h0 i b o hβi ho
     exact ⟨fun hl => ⟨o, he, hl⟩, ObjRel.both hp (Pre.snoc _ _) g0 (hi.obj i b o hb he), .inl ⟨hi', rfl⟩⟩
   ·obtain ⟨j, rfl⟩ : ∃ j, i = n + j := ⟨i - n, by omega⟩
    rw [hβγ2] at hb
    rw [mget2] at ho
    cases hj : sel[j]? with
    | none => rw [hj] at ho; cases ho
    | some i0 =>
     rw [hj] at ho
     cases ho
     rw [hγ _ _ hj] at hb
     have hlt : i0 < (lst s).length := by rw [← hi.len]; exact (List.getElem?_eq_some_iff.1 hb).1
     have hoi : (lst s)[i0]? = some (objAt s i0) := by unfold objAt; rw [List.getElem?_eq_getElem hlt]; rfl
     exact ⟨i0, hb, fun hl => ⟨_, hoi, by rwa [renO_live] at hl⟩, (hi.obj i0 b _ hb hoi).ren ren (hsel i0 (List.mem_of_getElem? hj)).2.2, .inr ⟨j, rfl, hj⟩⟩
  have hml : mg.length = n + sel.length := by
   rcases Nat.lt_trichotomy mg.length (n + sel.length) with hlt | he | hgt
   ·exfalso
    have hj := mget2 (sel.length - 1)
    by_cases hz : sel.length = 0
    ·have := mget1 (n - 1) (by omega)
     rw [List.getElem?_eq_none (by omega)] at this
     split at this
     ·cases this
     ·rw [List.getElem?_eq_getElem (by omega)] at this; cases this
    ·rw [List.getElem?_eq_none (by omega), List.getElem?_eq_getElem (by omega)] at hj
     cases hj
   ·exact he
   ·exfalso
    have hj := mget2 sel.length
    rw [List.getElem?_eq_none (show sel.length ≤ sel.length from Nat.le_refl _), List.getElem?_eq_getElem hgt] at hj
    cases hj
  refine ⟨by simp [γ, hml]; omega, ?_, ?_, ?_, hi.size, hi.keep, hi.os, hi.tape, hi.output, hi.glob, hBp.trans (Pre.snoc _ _)⟩
  ·rintro i j b h1 h2 ⟨o1, l1, v1⟩ ⟨o2, l2, v2⟩
   obtain ⟨i0, a1, a2, _, a3⟩ := src i b o1 h1 l1
   obtain ⟨j0, b1, b2, _, b3⟩ := src j b o2 h2 l2
   have e := hi.inj i0 j0 b a1 b1 (a2 v1) (b2 v2)
   subst e
   rcases a3 with ⟨a3, a4⟩ | ⟨x, a3, a4⟩ <;> rcases b3 with ⟨b3, b4⟩ | ⟨y, b3, b4⟩
   ·rw [← a4, ← b4]
   ·have := (hsel _ (List.mem_of_getElem? b4)).1; omega
   ·have := (hsel _ (List.mem_of_getElem? a4)).1; omega
   ·have hx : x < sel.length := (List.getElem?_eq_some_iff.1 a4).1
    have := (List.getElem?_inj hx hnd).1 (a4.trans b4.symm)
    omega
  ·intro i b o h1 h2
   exact (src i b o h1 h2).choose_spec.2.2.1
  ·rintro i b h1 ⟨o, l1, v1⟩
   obtain ⟨i0, a1, a2, _, _⟩ := src i b o h1 l1
   exact hi.own i0 b a1 (a2 v1)
 ·refine ⟨by simp [hd.1], fun j c v hc hv => ?_⟩
  simp only [] at hc
  rw [List.getElem?_map] at hc
  cases hx : vs[j]? with
  | none => rw [hx] at hc; cases hc
  | some x =>
   rw [hx] at hc
   cases hc
   exact (hd.2 j x v hx hv).renV ren fun i hi' => ht i (r3 i (r1 x (List.mem_of_getElem? hx) i hi'))
end
end
end Go.Ev
namespace Go.Ev
open Go
noncomputable section
section
variable {P : Program} {gl : List (Nat × List V)} {N : Nat} {ops : Array Oper} {CO : Call → Prop}
theorem Inv.drew {B : Base} {w : World} {β : List Nat} {st : List O} (hi : Inv gl B w β st) : Inv gl B { w with drawn := w.drawn + 1 } β st :=
 ⟨hi.len, hi.inj, fun i b o h1 h2 => (hi.obj i b o h1 h2).mono (.refl _) fun _ => rfl, hi.own, hi.size, hi.keep, hi.os, hi.tape, hi.output, hi.glob, hi.pre⟩
theorem dstsOf_mem : ∀ {l : List Oper} {o : Oper} {d : Tmp}, o ∈ l → o.dst = some d → d ∈ dstsOf l
 | [], _, _, hm, _ => by cases hm
 | o' :: l, o, d, hm, hd => by
  unfold dstsOf
  rcases List.mem_cons.1 hm with rfl | hm
  ·rw [hd]; simp
  ·have := dstsOf_mem hm hd
   cases o'.dst with
   | none => exact this
   | some _ => exact List.mem_cons_of_mem _ this
theorem dstsOf_inv : ∀ {l : List Oper} {d : Tmp}, d ∈ dstsOf l → ∃ o ∈ l, o.dst = some d
 | [], d, h => by cases h
 | o :: l, d, h => by
  unfold dstsOf at h
  cases ho : o.dst with
  | none => rw [ho] at h; obtain ⟨o', h1, h2⟩ := dstsOf_inv h; exact ⟨o', List.mem_cons_of_mem _ h1, h2⟩
  | some e =>
   rw [ho] at h
   rcases List.mem_cons.1 h with rfl | h
   ·exact ⟨o, by simp, ho⟩
   ·obtain ⟨o', h1, h2⟩ := dstsOf_inv h; exact ⟨o', List.mem_cons_of_mem _ h1, h2⟩
theorem EvD.frame (hd : DOk N ops) {F : Env → St → List Nat → Prop} : ∀ (n : Nat) {listed : Array Bool} {env : Env} {st : St} {L : List (Nat × Nat)} {β : List Nat}, EvD P gl N ops F n listed env st L β →
  EvD P gl N ops (fun e s b => F e s b ∧ ∀ t, t < 512 → t ∉ dstsOf ops.toList → getE e t = getE env t) n listed env st L β
 | 0, _, _, _, _, _, h => ⟨h.1, h.2, fun _ _ _ => rfl⟩
 | n + 1, _, env, _, _, _, h => ⟨fun h0 => ⟨h.1 h0, fun _ _ _ => rfl⟩, fun i hi => by
  obtain ⟨_, o, ho, _⟩ := mem_ready.1 hi
  refine ((h.2 i hi).shape ho).mono ?_
  rintro e s b _ ⟨⟨_, y, rfl⟩, h1, h2⟩
  refine ⟨h1, (EvD.frame hd n h2).monoF ?_ n⟩
  rintro e' s' b' ⟨g1, g2⟩
  refine ⟨g1, fun t ht hn => (g2 t ht hn).trans (putE_get ht (fun d hh => (hd i o d ho hh).1) fun d hh hte => ?_)⟩
  subst hte
  exact hn (dstsOf_mem (by rw [Array.mem_toList_iff]; exact Array.mem_of_getElem? ho) hh)⟩
theorem applyK_spec {d : Dl} {st : St} (hok : st.Ok) (hl : ∀ x ∈ d.old, x.1 < st.n) (k : St → R) : ∃ s2, applyK d st k = k s2 ∧ lst s2 = merge (lst st) d ∧ Good st s2 := by
 have sa : ∀ (l : List (Nat × O)) (st : St) (k : St → R), st.Ok → (∀ x ∈ l, x.1 < st.n) → ∃ s2, setAll l st k = k s2 ∧ lst s2 = setL (lst st) l ∧ Good st s2 := by
  intro l
  induction l with
  | nil => intro st k hok _; exact ⟨st, rfl, rfl, .refl hok⟩
  | cons x l ih =>
   intro st k hok hl
   have hx := hl x (by simp)
   have hg := put_good hok hx x.2
   obtain ⟨s2, h1, h2, h3⟩ := ih (st.put x.1 x.2) k hg.ok fun y hy => by
    have := hl y (by simp [hy]); exact Nat.lt_of_lt_of_le this hg.n
   refine ⟨s2, ?_, ?_, hg.trans h3⟩
   ·unfold setAll; rw [set_eq hx]; exact h1
   ·rw [h2, put_lst hok hx]; rfl
 have pa : ∀ (l : List O) (st : St) (k : St → R), st.Ok → ∃ s2, pushAll l st k = k s2 ∧ lst s2 = lst st ++ l ∧ Good st s2 := by
  intro l
  induction l with
  | nil => intro st k hok; exact ⟨st, rfl, by simp, .refl hok⟩
  | cons x l ih =>
   intro st k hok
   have hg := add_good hok x
   obtain ⟨s2, h1, h2, h3⟩ := ih (st.add x) k hg.ok
   refine ⟨s2, ?_, ?_, hg.trans h3⟩
   ·unfold pushAll; rw [push_eq]; exact h1
   ·rw [h2, add_lst]; simp
 obtain ⟨s1, h1, h2, h3⟩ := sa d.old st (fun s => pushAll d.new s k) hok hl
 obtain ⟨s2, h4, h5, h6⟩ := pa d.new s1 k h3.ok
 exact ⟨s2, by unfold applyK; rw [h1]; exact h4, by rw [h5, h2]; rfl, h3.trans h6⟩
theorem many_spec {γ : Type} {k : γ → R} : ∀ {l : List γ} {outs : List Dl}, many l k = some outs → ∀ d ∈ l, ∃ o, k d = some o ∧ ∀ x ∈ o, x ∈ outs
 | [], _, _, d, hd => by cases hd
 | x :: xs, outs, h, d, hd => by
  unfold many at h
  cases xs with
  | nil =>
   rw [List.mem_singleton] at hd
   subst hd
   exact ⟨outs, h, fun _ h => h⟩
  | cons y ys =>
   simp only [] at h
   split at h
   ·rename_i a ha
    split at h
    ·rename_i b hb
     cases h
     rcases List.mem_cons.1 hd with rfl | hd
     ·exact ⟨a, ha, fun z hz => List.mem_append_left _ hz⟩
     ·obtain ⟨o, h1, h2⟩ := many_spec hb d hd
      exact ⟨o, h1, fun z hz => List.mem_append_right _ (h2 z hz)⟩
    ·cases h
   ·cases h
theorem eqL_sound {α : Type} {f : α → α → Bool} (hf : ∀ x y, f x y = true → x = y) : ∀ {a b : List α}, eqL f a b = true → a = b
 | [], [], _ => rfl
 | [], _ :: _, h => by cases h
 | _ :: _, [], h => by cases h
 | x :: xs, y :: ys, h => by
  simp only [eqL, Bool.and_eq_true] at h
  rw [hf x y h.1, eqL_sound hf h.2]
theorem eqCap_sound : ∀ {a b : Cap}, eqCap a b = true → a = b
 | .known a, .known b, h => by rw [Nat.eq_of_beq_eq_true h]
 | .ghost a, .ghost b, h => by rw [Nat.eq_of_beq_eq_true h]
 | .known _, .ghost _, h => by cases h
 | .ghost _, .known _, h => by cases h
theorem eqKd_sound {a b : IntKind} (h : eqKd a b = true) : a = b := by
 cases a <;> cases b <;> first
  | rfl
  | (exact absurd h (by decide))
theorem eqV_sound : ∀ (n : Nat) {x y : V}, eqV n x y = true → x = y := by
 intro n
 induction n with
 | zero => intro x y h; cases h
 | succ n ih =>
  intro x y h
  have l : ∀ {a b : List V}, eqL (eqV n) a b = true → a = b := fun h => eqL_sound (fun _ _ => ih) h
  cases x <;> cases y <;> simp only [eqV, Bool.and_eq_true] at h <;> first
   | (cases h; done)
   | rfl
   | skip
  case bool a b => rw [eq_of_beq h]
  case int k a k' b => have := h.2; rw [eqI_eq] at this; rw [eqKd_sound h.1, eq_of_beq this]
  case str a b => rw [eqB_eq] at h; rw [eq_of_beq h]
  case ptr i o j p => rw [Nat.eq_of_beq_eq_true h.1, Nat.eq_of_beq_eq_true h.2]
  case gptr i o j p => rw [Nat.eq_of_beq_eq_true h.1, Nat.eq_of_beq_eq_true h.2]
  case sl k i o l c k' i' o' l' c' =>
   obtain ⟨⟨⟨⟨h1, h2⟩, h3⟩, h4⟩, h5⟩ := h
   rw [Nat.eq_of_beq_eq_true h1, Nat.eq_of_beq_eq_true h2, Nat.eq_of_beq_eq_true h3, Nat.eq_of_beq_eq_true h4, eqCap_sound h5]
  case map i j => rw [Nat.eq_of_beq_eq_true h]
  case fn f a b f' a' b' => rw [Nat.eq_of_beq_eq_true h.1.1, l h.1.2, l h.2]
  case iface t a t' b => rw [Nat.eq_of_beq_eq_true h.1, ih h.2]
  case agg a b => rw [l h]
  case tup a b => rw [l h]
theorem eqO_sound {x y : O} (h : eqO x y = true) : x = y := by
 have l : ∀ {a b : List V}, eqL (eqV 4) a b = true → a = b := fun h => eqL_sound (fun _ _ => eqV_sound 4) h
 cases x <;> cases y <;> first
  | (cases h; done)
  | rfl
  | (rename_i m _ _ _; cases m <;> (cases h; done))
  | (rename_i m _ _ _ _; cases m <;> (cases h; done))
  | (rename_i m _ _ _ _ _; cases m <;> (cases h; done))
  | (rename_i m _ _ _ _ _ _; cases m <;> (cases h; done))
  | skip
 case box a b => rw [l h]
 case vec k c a k' c' b =>
  simp only [eqO, Bool.and_eq_true] at h
  rw [Nat.eq_of_beq_eq_true h.1.1, Nat.eq_of_beq_eq_true h.1.2, l h.2]
 case kmap a c b d =>
  simp only [eqO, Bool.and_eq_true] at h
  rw [Nat.eq_of_beq_eq_true h.1]
  have : a = b := eqL_sound (fun x y hxy => by
   simp only [Bool.and_eq_true] at hxy
   obtain ⟨⟨h1, h2⟩, h3⟩ := hxy
   obtain ⟨x1, x2, x3⟩ := x
   obtain ⟨y1, y2, y3⟩ := y
   simp only [] at h1 h2 h3
   rw [Nat.eq_of_beq_eq_true h1, eqV_sound 4 h2, eqV_sound 4 h3]) h.2
  rw [this]
 case iter m s l' c m' s' l2 c' =>
  cases m with
  | none => cases m' <;> cases h
  | some m =>
   cases m' with
   | none => cases h
   | some m' =>
    simp only [eqO, Bool.and_eq_true] at h
    obtain ⟨⟨⟨h1, h2⟩, h3⟩, h4⟩ := h
    rw [Nat.eq_of_beq_eq_true h1, Nat.eq_of_beq_eq_true h2, eqL_sound (fun _ _ => Nat.eq_of_beq_eq_true) h3, Nat.eq_of_beq_eq_true h4]
theorem eqDl_sound {a b : Dl} (h : eqDl a b = true) : a = b := by
 obtain ⟨a1, a2, a3⟩ := a
 obtain ⟨b1, b2, b3⟩ := b
 simp only [eqDl, Bool.and_eq_true] at h
 obtain ⟨⟨h1, h2⟩, h3⟩ := h
 rw [eqL_sound (fun _ _ => eqV_sound 5) h1, eqL_sound (fun _ _ => eqO_sound) h2, eqL_sound (fun x y hxy => by
  rw [Bool.and_eq_true] at hxy
  obtain ⟨x1, x2⟩ := x
  obtain ⟨y1, y2⟩ := y
  simp only [] at hxy
  rw [Nat.eq_of_beq_eq_true hxy.1, eqO_sound hxy.2]) h3]
theorem addDl_mem (d : Dl) : ∀ (l : List Dl), d ∈ addDl d l ∧ ∀ x ∈ l, x ∈ addDl d l
 | [] => ⟨by simp [addDl], fun x hx => by cases hx⟩
 | e :: l => by
  unfold addDl
  cases h : eqDl d e with
  | true => rw [eqDl_sound h]; exact ⟨by simp, fun x hx => hx⟩
  | false =>
   obtain ⟨h1, h2⟩ := addDl_mem d l
   exact ⟨List.mem_cons_of_mem _ h1, fun x hx => by
    rcases List.mem_cons.1 hx with rfl | hx
    ·simp
    ·exact List.mem_cons_of_mem _ (h2 x hx)⟩
theorem dedup_mem : ∀ (l acc : List Dl), (∀ x ∈ l, x ∈ dedup l acc) ∧ ∀ x ∈ acc, x ∈ dedup l acc
 | [], acc => ⟨fun x hx => (by cases hx), fun x hx => hx⟩
 | d :: l, acc => by
  unfold dedup
  obtain ⟨h1, h2⟩ := dedup_mem l (addDl d acc)
  obtain ⟨h3, h4⟩ := addDl_mem d acc
  exact ⟨fun x hx => by
   rcases List.mem_cons.1 hx with rfl | hx
   ·exact h2 _ h3
   ·exact h1 x hx, fun x hx => h2 x (h4 x hx)⟩
theorem dedupe_mem {l : List Dl} {d : Dl} (h : d ∈ l) : d ∈ dedupe l := by
 unfold dedupe
 cases l with
 | nil => cases h
 | cons x l =>
  cases l with
  | nil => exact h
  | cons y l => exact (dedup_mem _ _).1 d h
theorem getsK_eq {γ : Type} (l : List Tmp) (k : List G → γ) : mapK (fun d k => match getC d with | ⟨g⟩ => k g) l k = k (l.map fun d => (getC d).v) := mapK_eq (fun d => (getC d).v) (fun _ _ => rfl) l k
theorem putsK_eq {γ : Type} (l : List Tmp) (k : List U → γ) : mapK (fun d k => match putC d with | ⟨u⟩ => k u) l k = k (l.map fun d => (putC d).v) := mapK_eq (fun d => (putC d).v) (fun _ _ => rfl) l k
theorem gets_eq {env : Env} (k : List V → R) : ∀ (l : List Tmp), (∀ d ∈ l, d < 512) → opsK (l.map fun d => (getC d).v) env k = k (l.map fun d => getE env d) := by
 intro l hl
 unfold opsK
 induction l generalizing k with
 | nil => rfl
 | cons d l ih =>
  have : mapK (fun (g : G) k => g env k) ((d :: l).map fun d => (getC d).v) k = (getC d).v env fun y => mapK (fun (g : G) k => g env k) (l.map fun d => (getC d).v) fun ys => k (y :: ys) := rfl
  rw [this, getC_eq (hl d (by simp)), ih _ fun d' hd => hl d' (by simp [hd])]
  rfl
def putsE : List Tmp → List V → Env → Env
 | [], _, env => env
 | _ :: _, [], env => env
 | d :: ds, v :: vs, env => putsE ds vs (setE env d v)
theorem puts_eq (k : Env → R) : ∀ (l : List Tmp) (vs : List V) (env : Env), (∀ d ∈ l, d < 512) → putAll (l.map fun d => (putC d).v) vs env k = k (putsE l vs env)
 | [], vs, env, _ => rfl
 | d :: l, [], env, _ => rfl
 | d :: l, v :: vs, env, h => by
  show (putC d).v env v (fun env => putAll (l.map fun d => (putC d).v) vs env k) = _
  rw [putC_eq (h d (by simp)), puts_eq k l vs _ fun d' hd => h d' (by simp [hd])]
  rfl
theorem putsE_get : ∀ (l : List Tmp) (vs : List V) (env : Env) (t : Nat), t < 512 → (∀ d ∈ l, d < 512) → vs.length = l.length → (t ∉ l ∧ getE (putsE l vs env) t = getE env t) ∨ ∃ (j : Nat) (x : V), l[j]? = some t ∧ vs[j]? = some x ∧ getE (putsE l vs env) t = x
 | [], vs, env, t, _, _, _ => .inl ⟨by simp, rfl⟩
 | d :: l, [], env, t, _, _, hl => by simp at hl
 | d :: l, v :: vs, env, t, ht, hd, hl => by
  rcases putsE_get l vs (setE env d v) t ht (fun d' h => hd d' (by simp [h])) (by simpa using hl) with ⟨h1, h2⟩ | ⟨j, x, h1, h2, h3⟩
  ·by_cases e : d = t
   ·subst e
    refine .inr ⟨0, v, rfl, rfl, ?_⟩
    show getE (putsE l vs (setE env d v)) d = v
    rw [h2, getE_set _ _ ht ht, if_pos rfl]
   ·refine .inl ⟨by simp [h1]; exact fun h => e h.symm, ?_⟩
    show getE (putsE l vs (setE env d v)) t = _
    rw [h2, getE_set _ _ (hd d (by simp)) ht, if_neg e]
  ·exact .inr ⟨j + 1, x, by simpa using h1, by simpa using h2, h3⟩
theorem region_ok (hm : P.follows .mixedOrders = true) (hops : OpsOk P gl CO) (hpure : PureOk P gl CO) (hd : DOk N ops) (hsel : ∀ (j : Nat) (o : Oper) cs b, ops[j]? = some o → o.op ≠ .select cs b) {draw : Bool} {s : Step} (hs : compReg P gl ops draw = ⟨s⟩)
  {call : Call} (hc : CO call) {env : Env} {st : St} {K : Env → St → R} {outs : List Dl} (hok : st.Ok) (h : s call env st K = some outs) {B : Base} {w : World} {β : List Nat} {tmps : List Value} (hi : Inv gl B w β (lst st)) (hBp : Pre B.β β) (he : FrR N β env tmps)
  {id : Nat} {Q : Exit → Act → World → Prop} (hQ : ∀ a w, RealE gl N B β st K outs a w → Q .normal a w) : (Code.region id ops draw).wp P Q ⟨tmps.toArray, []⟩ w := by
 cases draw with
 | false =>
  refine wp_region_list ?_
  refine seq_ok hops hd ops.toList (fun o ho => ?_) s hs call hc env st K outs hok h B w β tmps hi he Q hQ
  obtain ⟨j, hj, he⟩ := List.getElem_of_mem ho
  exact ⟨j, by rw [← Array.getElem?_toList, List.getElem?_eq_getElem hj, he]⟩
 | true =>
  refine wp_region_any hm ?_
  obtain ⟨p, hp, hpo⟩ := planOf_ok (ops := ops)
  cases hcp : compPlan P gl ops p with
  | mk s0 =>
  have hs' : (match forks p with
   | true => mapK (fun d k => match getC d with | ⟨g⟩ => k g) (dstsOf ops.toList) fun gs => mapK (fun d k => match putC d with | ⟨u⟩ => k u) (dstsOf ops.toList) fun us => (⟨forkS gs us s0⟩ : Bx0 Step)
   | false => ⟨plainS s0⟩) = ⟨s⟩ := by
   have e : compReg P gl ops true = compDraw P gl ops := rfl
   rw [e] at hs
   unfold compDraw at hs
   rw [hp] at hs
   simp only [hcp] at hs
   exact hs
  have hz : ∀ st' : St, lst st' = lst st → Rz gl N env st' β := fun st' e => ⟨B, w, tmps, by rw [e]; exact hi, he⟩
  have noL : ∀ x ∈ ([] : List (Nat × Nat)), x.2 < st.n := fun x hx => by cases hx
  cases hf : forks p with
  | false =>
   rw [hf] at hs'
   have : s = plainS s0 := by cases hs'; rfl
   subst this
   have hev := plan_ok hops hpure hd hsel p s0 hcp _ _ none hpo call hc env st [] K outs β hok (hz st rfl) noL h
   refine EvD.sound hd _ hev hi.drew he ?_
   rintro env' st' w' β' tmps' ⟨g1, g2⟩ g3 g4 g5
   exact hQ _ _ ⟨env', st', β', tmps', rfl, g3, g4, g5, g1, g2⟩
  | true =>
   rw [hf] at hs'
   simp only [getsK_eq, putsK_eq] at hs'
   have : s = forkS ((dstsOf ops.toList).map fun d => (getC d).v) ((dstsOf ops.toList).map fun d => (putC d).v) s0 := by cases hs'; rfl
   subst this
   have hds : ∀ d ∈ dstsOf ops.toList, d < 512 := fun d hdm => by
    obtain ⟨o, ho, hod⟩ := dstsOf_inv hdm
    obtain ⟨j, hj, he⟩ := List.getElem_of_mem ho
    exact (hd j o d (by rw [← Array.getElem?_toList, List.getElem?_eq_getElem hj, he]) hod).1
   unfold forkS at h
   split at h
   ·rename_i l hl
    have ok1 : (⟨st.n, st.n, st.os, []⟩ : St).Ok := ⟨hok.len, Nat.le_refl _, by intro i h; cases h⟩
    have hev := (plan_ok hops hpure hd hsel p s0 hcp _ _ none hpo call hc env ⟨st.n, st.n, st.os, []⟩ [] _ l β ok1 (hz _ rfl) (fun x hx => by cases hx) hl)
    have hev2 := EvD.frame hd _ hev
    refine EvD.sound hd _ hev2 (st := ⟨st.n, st.n, st.os, []⟩) hi.drew he ?_
    rintro env' s' w' β' tmps' ⟨⟨g1, outs1, g2, g2'⟩, gfr⟩ g3 g4 g5
    simp only [] at g2
    rw [gets_eq _ _ hds] at g2
    have hn := lst_len hok
    have hdv : DenL β' ((dstsOf ops.toList).map fun d => getE env' d) ((dstsOf ops.toList).map fun d => tmps'.getD d undef) := ⟨by simp, fun j c v hc hv => by
     rw [List.getElem?_map] at hc hv
     cases hx : (dstsOf ops.toList)[j]? with
     | none => rw [hx] at hc; cases hc
     | some x => rw [hx] at hc hv; cases hc; cases hv; exact g4.env x (hds x (List.mem_of_getElem? hx))⟩
    obtain ⟨d, γ, d1, d2, d3, d4, d5⟩ := delta_ok (os := lst st) (β := β) g1.ok (by rw [g1.n0, hn]) (fun p hp hn' => g1.same p (by rw [hn] at hp; exact hp) hn') (fun p b o h1 h2 => ⟨w, hi.obj p b o h1 h2⟩) hi.len g5 hBp g3 hdv g2
    cases d1
    have hdl : d ∈ l := g2' d (by simp)
    obtain ⟨o, m1, m2⟩ := many_spec h d (dedupe_mem hdl)
    obtain ⟨s2, a1, a2, a3⟩ := applyK_spec hok (fun x hx => by rw [← hn]; exact d3 x hx) fun s => putAll ((dstsOf ops.toList).map fun d => (putC d).v) d.vs env fun env => K env s
    rw [a1, puts_eq _ _ _ _ hds] at m1
    refine hQ _ _ ⟨_, s2, β ++ γ, tmps', rfl, by rw [a2]; exact d4, ⟨?_, g4.len⟩, Pre.snoc _ _, a3, o, m1, m2⟩
    intro t ht
    have hvl : d.vs.length = (dstsOf ops.toList).length := by rw [d5.1]; simp
    rcases putsE_get (dstsOf ops.toList) d.vs env t ht hds hvl with ⟨k1, k2⟩ | ⟨j, x, k1, k2, k3⟩
    ·rw [k2]
     have := g4.env t ht
     rw [gfr t ht k1] at this
     exact Den.both g5 (Pre.snoc _ _) (he.env t ht) this
    ·rw [k3]
     exact d5.2 j x _ k2 (by rw [List.getElem?_map, k1]; rfl)
   ·cases h
end
end
end Go.Ev
namespace Go.Ev
open Go
noncomputable section
def exOf : Exit → Option Ex
 | .normal => some .normal
 | .exit id => some (.exit id)
 | .ret => some .ret
 | _ => none
section
variable {P : Program} {gl : List (Nat × List V)} {N : Nat} {CO : Call → Prop}
theorem ops_ok {ops : Array Oper} (hN : N ≤ 512) (h : ops.toList.all (dOkB N) = true) : DOk N ops ∧ ∀ (j : Nat) (o : Oper) cs b, ops[j]? = some o → o.op ≠ .select cs b := by
 have key : ∀ (j : Nat) o, ops[j]? = some o → dOkB N o = true := fun j o ho => List.all_eq_true.1 h o (by rw [Array.mem_toList_iff]; exact Array.mem_of_getElem? ho)
 refine ⟨fun j o d ho hd => ?_, fun j o cs b ho hs => ?_⟩
 ·have := key j o ho
  unfold dOkB at this
  rw [hd, Bool.and_eq_true] at this
  have := blt_iff.1 this.1
  exact ⟨Nat.lt_of_lt_of_le this hN, this⟩
 ·have := key j o ho
  unfold dOkB at this
  rw [hs, Bool.and_eq_true] at this
  cases this.2
def RealC (gl : List (Nat × List V)) (N : Nat) (B : Base) (β : List Nat) (st : St) (K : KC) (outs : List Dl) (e : Exit) (a : Act) (w : World) : Prop :=
 ∃ x, exOf e = some x ∧ RealE gl N B β st (K x) outs a w
theorem RealE.trans {B : Base} {β β' : List Nat} {st st' : St} {K : Env → St → R} {outs outs' : List Dl} {a : Act} {w : World} (h : RealE gl N B β' st' K outs' a w) (hp : Pre β β') (hg : Good st st') (ho : ∀ d ∈ outs', d ∈ outs) : RealE gl N B β st K outs a w := by
 obtain ⟨e, s, b, t, h1, h2, h3, h4, h5, o, h6, h7⟩ := h
 exact ⟨e, s, b, t, h1, h2, h3, hp.trans h4, hg.trans h5, o, h6, fun d hd => ho d (h7 d hd)⟩
def CSemOk (P : Program) (gl : List (Nat × List V)) (CO : Call → Prop) (N : Nat) (c : Code) (s : CSem) : Prop :=
 ∀ call, CO call → ∀ n env st K outs, st.Ok → s call n env st K = some outs → ∀ B w β tmps, Inv gl B w β (lst st) → Pre B.β β → FrR N β env tmps → c.wp P (RealC gl N B β st K outs) ⟨tmps.toArray, []⟩ w
theorem code_ok (hm : P.follows .mixedOrders = true) (hops : OpsOk P gl CO) (hpure : PureOk P gl CO) (hN : N ≤ 512) : ∀ (c : Code) (s : CSem), okC N c = true → compCode P gl c = ⟨s⟩ → CSemOk P gl CO N c s := by
 intro c
 induction c with
 | skip =>
  intro s _ hs call hc n env st K outs hok h B w β tmps hi hBp he
  have : s = skipC := by cases hs; rfl
  subst this
  exact wp_skip ⟨.normal, rfl, env, st, β, tmps, rfl, hi, he, .refl _, .refl hok, .of h⟩
 | label l =>
  intro s _ hs call hc n env st K outs hok h B w β tmps hi hBp he
  have : s = skipC := by cases hs; rfl
  subst this
  exact wp_label ⟨.normal, rfl, env, st, β, tmps, rfl, hi, he, .refl _, .refl hok, .of h⟩
 | exit id =>
  intro s _ hs call hc n env st K outs hok h B w β tmps hi hBp he
  have : s = exitC id := by cases hs; rfl
  subst this
  exact wp_exit ⟨.exit id, rfl, env, st, β, tmps, rfl, hi, he, .refl _, .refl hok, .of h⟩
 | ret =>
  intro s _ hs call hc n env st K outs hok h B w β tmps hi hBp he
  have : s = retC := by cases hs; rfl
  subst this
  exact wp_ret ⟨.ret, rfl, env, st, β, tmps, rfl, hi, he, .refl _, .refl hok, .of h⟩
 | seq x y ihx ihy =>
  intro s ho hs call hc n env st K outs hok h B w β tmps hi hBp he
  simp only [okC, Bool.and_eq_true] at ho
  cases ha : compCode P gl x with
  | mk a =>
  cases hb : compCode P gl y with
  | mk b =>
  have : s = seqC a b := by
   simp only [compCode, ha, hb] at hs
   cases hs; rfl
  subst this
  refine wp_seq (Code.wp_mono ?_ (ihx a ho.1 ha call hc n env st _ outs hok h B w β tmps hi hBp he))
  rintro e a1 w1 ⟨x1, hx, env', st', β', tmps', rfl, g1, g2, g3, g4, outs', g5, g6⟩
  cases e <;> first | (cases hx; done) | skip
  all_goals cases hx
  ·refine Code.wp_mono ?_ (ihy b ho.2 hb call hc n env' st' K outs' g4.ok g5 B w1 β' tmps' g1 (hBp.trans g3) g2)
   rintro e a2 w2 ⟨x2, hx2, hr⟩
   exact ⟨x2, hx2, hr.trans g3 g4 g6⟩
  ·exact ⟨_, rfl, env', st', β', tmps', rfl, g1, g2, g3, g4, outs', g5, g6⟩
  ·exact ⟨_, rfl, env', st', β', tmps', rfl, g1, g2, g3, g4, outs', g5, g6⟩
 | cond c x y ihx ihy =>
  intro s ho hs call hc n env st K outs hok h B w β tmps hi hBp he
  simp only [okC, Bool.and_eq_true] at ho
  cases ha : compCode P gl x with
  | mk a =>
  cases hb : compCode P gl y with
  | mk b =>
  have : s = condC (opG c) a b := by
   simp only [compCode, withO_eq, ha, hb] at hs
   cases hs; rfl
  subst this
  obtain ⟨v, hv, h1⟩ := opG_den he.env h
  obtain ⟨t, rfl, h2⟩ := vBool_some h1
  refine wp_cond hv.bool_inv ?_
  cases t with
  | true => exact ihx a ho.1 ha call hc n env st K outs hok h2 B w β tmps hi hBp he
  | false => exact ihy b ho.2 hb call hc n env st K outs hok h2 B w β tmps hi hBp he
 | block id c ih =>
  intro s ho hs call hc n env st K outs hok h B w β tmps hi hBp he
  cases ha : compCode P gl c with
  | mk a =>
  have : s = blockC id a := by
   simp only [compCode, fNat_eq, ha] at hs
   cases hs; rfl
  subst this
  refine wp_block (Code.wp_mono ?_ (ih a ho ha call hc n env st _ outs hok h B w β tmps hi hBp he))
  rintro e a1 w1 ⟨x1, hx, env', st', β', tmps', rfl, g1, g2, g3, g4, outs', g5, g6⟩
  cases e <;> first | (cases hx; done) | skip
  all_goals cases hx
  ·exact ⟨_, rfl, env', st', β', tmps', rfl, g1, g2, g3, g4, outs', g5, g6⟩
  ·rename_i id'
   simp only [] at g5
   by_cases hid : id' = id
   ·subst hid
    rw [Nat.beq_refl] at g5
    simp only [Exit.inBlock, if_true]
    exact ⟨_, rfl, env', st', β', tmps', rfl, g1, g2, g3, g4, outs', g5, g6⟩
   ·have : Nat.beq id' id = false := by rw [Bool.eq_false_iff]; intro hb; exact hid (Nat.eq_of_beq_eq_true hb)
    rw [this] at g5
    simp only [Exit.inBlock, if_neg hid]
    exact ⟨_, rfl, env', st', β', tmps', rfl, g1, g2, g3, g4, outs', g5, g6⟩
  ·exact ⟨_, rfl, env', st', β', tmps', rfl, g1, g2, g3, g4, outs', g5, g6⟩
 | loop c ih =>
  intro s ho hs call hc n env st K outs hok h B w β tmps hi hBp he
  cases ha : compCode P gl c with
  | mk a =>
  have : s = loopC a := by
   simp only [compCode, ha] at hs
   cases hs; rfl
  subst this
  refine wp_loop_rounds n ?_
  have key : ∀ (m : Nat) env st' outs' w β' tmps', st'.Ok → Good st st' → Pre β β' → (∀ d ∈ outs', d ∈ outs) → loopN (a call n) m env st' K = some outs' → Inv gl B w β' (lst st') → FrR N β' env tmps' →
    Code.rounds P c (RealC gl N B β st K outs) m ⟨tmps'.toArray, []⟩ w := by
   intro m
   induction m with
   | zero => intro env st' outs' w β' tmps' _ _ _ _ h; cases h
   | succ m ihm =>
    intro env st' outs' w β' tmps' hok' hg hp hsub h hi' he'
    refine Code.wp_mono ?_ (ih a ho ha call hc n env st' _ outs' hok' h B w β' tmps' hi' (hBp.trans hp) he')
    rintro e a1 w1 ⟨x1, hx, env2, st2, β2, tmps2, rfl, g1, g2, g3, g4, outs2, g5, g6⟩
    cases e <;> first | (cases hx; done) | skip
    all_goals cases hx
    ·exact ihm env2 st2 outs2 w1 β2 tmps2 g4.ok (hg.trans g4) (hp.trans g3) (fun d hd => hsub d (g6 d hd)) g5 g1 g2
    ·exact ⟨_, rfl, env2, st2, β2, tmps2, rfl, g1, g2, hp.trans g3, hg.trans g4, outs2, g5, fun d hd => hsub d (g6 d hd)⟩
    ·exact ⟨_, rfl, env2, st2, β2, tmps2, rfl, g1, g2, hp.trans g3, hg.trans g4, outs2, g5, fun d hd => hsub d (g6 d hd)⟩
  exact key n env st outs w β tmps hok (.refl hok) (.refl _) (fun _ h => h) h hi he
 | region id ops draw =>
  intro s ho hs call hc n env st K outs hok h B w β tmps hi hBp he
  cases ha : compReg P gl ops draw with
  | mk a =>
  have : s = stepC a := by
   simp only [compCode, ha] at hs
   cases hs; rfl
  subst this
  obtain ⟨h1, h2⟩ := ops_ok hN ho
  exact region_ok hm hops hpure h1 h2 ha hc hok h hi hBp he fun a w hr => ⟨.normal, rfl, hr⟩
 | _ =>
  intro s ho hs call hc n env st K outs hok h B w β tmps hi hBp he
  have : s = failC := by cases hs; rfl
  subst this
  cases h
end
end
end Go.Ev
