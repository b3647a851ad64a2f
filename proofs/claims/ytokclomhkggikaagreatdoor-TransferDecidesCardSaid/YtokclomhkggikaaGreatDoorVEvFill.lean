/-
 Literals, made slices, cleared ones.
 Appends.
-/
import Derived.Test.YtokclomhkggikaaGreatDoorVEvSli
import Derived.Laws.Append
namespace Go.Ev
open Go
noncomputable section
section
variable {P : Program} {gl : List (Nat × List V)} {CO : Call → Prop} {β : List Nat} {w : World}
inductive PartsR (place : Nat → Option (Nat × Nat)) : List (Nat × Operand) → List (Nat × Nat × G) → Prop
 | nil : PartsR place [] []
 | cons {i x o s l ps} : place i = some (o, s) → PartsR place l ps → PartsR place ((i, x) :: l) ((o, s, opG x) :: ps)
theorem partsC_eq {γ : Type} {place : Nat → Option (Nat × Nat)} : ∀ (l : List (Nat × Operand)) (c : Option (List (Nat × Nat × G)) → γ), (∃ ps, PartsR place l ps ∧ partsC place l c = c (some ps)) ∨ partsC place l c = c none
 | [], c => .inl ⟨[], .nil, rfl⟩
 | (i, x) :: l, c => by
  cases hp : place i with
  | none =>
   right
   simp only [partsC, hp]
  | some q =>
   obtain ⟨o, s⟩ := q
   have e : partsC place ((i, x) :: l) c = partsC place l fun r => match r with | some r => c (some ((o, s, opG x) :: r)) | none => c none := by
    simp only [partsC, hp, fNat_eq, withO_eq]
    rfl
   rw [e]
   rcases partsC_eq (place := place) l (fun r => match r with | some r => c (some ((o, s, opG x) :: r)) | none => c none) with ⟨ps, h1, h2⟩ | h2
   ·left; exact ⟨_, .cons hp h1, h2⟩
   ·right; exact h2
theorem fold_set (off : Nat) : ∀ (vs : List Value) (n : Nat) (cells : List Value), off + n + vs.length ≤ cells.length →
  (vs.zipIdx n).foldl (fun (cs : Array Value) (x : Value × Nat) => cs.setIfInBounds (off + x.2) x.1) cells.toArray = (cells.take (off + n) ++ vs ++ cells.drop (off + n + vs.length)).toArray
 | [], n, cells, h => by simp
 | v :: vs, n, cells, h => by
  simp only [List.length_cons] at h
  simp only [List.zipIdx_cons, List.foldl_cons, List.setIfInBounds_toArray]
  rw [fold_set off vs (n + 1) (cells.set (off + n) v) (by simp; omega)]
  congr 1
  rw [List.drop_set_of_lt (by omega), ← Nat.add_assoc, List.take_succ_eq_append_getElem (by simp; omega), List.take_set_of_le (Nat.le_refl _)]
  simp [Nat.add_assoc, Nat.add_comm 1]
theorem fillK_den {env : Env} {tmps : List Value} (he : EnvRel β env tmps) {place : Nat → Option (Nat × Nat)} : ∀ {l : List (Nat × Operand)} {ps : List (Nat × Nat × G)}, PartsR place l ps → ∀ (z : List V) (zs : List Value) {K : List V → R} {outs : List Dl},
  DenL β z zs → (∀ u ∈ zs, u.oneCell' = true) → fillK env z ps K = some outs →
  ∃ cs vs, K cs = some outs ∧ DenL β cs vs ∧ (∀ u ∈ vs, u.oneCell' = true) ∧ Instr.fill place zs.toArray (l.map fun p => (p.1, (⟨tmps.toArray, []⟩ : Act).eval p.2)) = some vs.toArray := by
 intro l ps h
 induction h with
 | nil => intro z zs K outs hz h1 h; exact ⟨z, zs, h, hz, h1, rfl⟩
 | @cons i x o s l ps hp hr ih =>
  intro z zs K outs hz h1 h
  change opG x env (fun v => partsK v fun xs => iff (Nat.beq xs.length s) (overK z o xs fun z => match z with | some z => fillK env z ps K | none => none) none) = some outs at h
  obtain ⟨p, hd, h2⟩ := opG_den he h
  obtain ⟨xs, us, h3, hv, hl, h1u⟩ := partsK_den hd h2
  obtain ⟨hs, h4⟩ := iff_some h3
  have hs' := Nat.eq_of_beq_eq_true hs
  rw [overK_eq] at h4
  by_cases hle : o + xs.length ≤ z.length
  ·rw [if_pos hle] at h4
   have hul := hl.1
   have hzl := hz.1
   obtain ⟨cs, vs, g1, g2, g3, g4⟩ := ih _ (zs.take o ++ us ++ zs.drop (o + us.length)) (hz.over hl o) (fun u hu => by
    rcases List.mem_append.1 hu with hu | hu
    ·rcases List.mem_append.1 hu with hu | hu
     ·exact h1 u (List.mem_of_mem_take hu)
     ·exact h1u u hu
    ·exact h1 u (List.mem_of_mem_drop hu)) h4
   refine ⟨cs, vs, g1, g2, g3, ?_⟩
   rw [← g4]
   simp only [List.map_cons, Instr.fill, hp]
   rw [if_neg (by rw [hv]; simp; omega), hv]
   congr 1
   have := fold_set o us 0 zs (by omega)
   rw [← Array.foldl_toList]
   simpa using this
  ·rw [if_neg hle] at h4; cases h4
theorem run_mapM_flds {fs : List Field} {l : List (Nat × Nat × Bool × TypeId)} (h : fldsOf P fs = some l) (w : World) :
  (fs.mapM (fun f => do pure (f.offset, ← sizeOf f.type) : Field → Sem (Nat × Nat))).run P w = .ok (l.map fun x => (x.1, x.2.1)) w := by
 induction fs generalizing l with
 | nil => simp [fldsOf] at h; subst h; simp
 | cons f fs ih =>
  simp only [fldsOf] at h
  split at h
  ·rename_i y ys h1 h2
   cases h
   obtain ⟨s, d, hs, hd, rfl⟩ := fldOf_spec h1
   simp only [List.mapM_cons, Sem.run_bind, run_size hs, Result.andThen_ok, Sem.run_pure, ih h2, List.map_cons]
  ·cases h
theorem ok_buildS {t : TypeId} {parts : Array (Nat × Operand)} {ti : TI} {l : List (Nat × Nat × Bool × TypeId)} {z : List V} {ps : List (Nat × Nat × G)} (ht : tyOf P t = some ti) (htk : ti.tk = .strct l) (hz : ti.zero = some z) (h1 : allOne z = true)
  (hp : PartsR (fun i => (l[i]?).map fun x => (x.1, x.2.1)) parts.toList ps) : ValOk P gl CO (.build t parts) (sBuild z ps) := fun o ho call hc env st K outs hok h => fun B w β tmps hi he => by
 obtain ⟨i, d, hi1, hu, htk', _⟩ := tyOf_spec ht
 rw [htk] at htk'
 obtain ⟨fs, rfl, hfs⟩ := tkOf_strct htk'
 obtain ⟨i2, zv, hi2, hzv, hzd, hz1⟩ := denL_zero (P := P) (t := t) (z := z) (by unfold zeroT; rw [ht]; exact hz) h1
 change mapK fV1 z (fun z => fillK env z ps fun cs => K (.agg cs) st) = some outs at h
 rw [mapV1_eq] at h
 obtain ⟨cs, vs, g1, g2, g3, g4⟩ := fillK_den he hp z _ (hzd β) hz1 h
 refine ⟨_, .agg vs.toArray, ?_, g2.agg g3, .of g1⟩
 have hm' : (fs.mapM (fun f => do pure (f.offset, ← sizeOf f.type) : Field → Sem (Nat × Nat))).run P w = .ok (l.map fun x => (x.1, x.2.1)).toArray w := by
  rw [Array.mapM_eq_mapM_toList, Sem.run_map, run_mapM_flds hfs w]; rfl
 have hmap : (parts.map fun x => (x.1, (⟨tmps.toArray, []⟩ : Act).eval x.2)).toList = parts.toList.map fun p => (p.1, (⟨tmps.toArray, []⟩ : Act).eval p.2) := by simp
 simp only [execOp, ho, Instr.build, Sem.run_bind, run_zero hi2 hzv, run_underlying hu, Result.andThen_ok, hm', hmap]
 have hpl : (fun x : Nat => (l.map fun x => (x.1, x.2.1)).toArray[x]?) = fun i => (l[i]?).map fun x => (x.1, x.2.1) := by
  funext x; simp
 rw [hpl]
 simp only [Array.toArray_toList] at g4
 rw [g4]
 rfl
theorem ok_buildA {t : TypeId} {parts : Array (Nat × Operand)} {ti : TI} {n e s : Nat} {z : List V} {ps : List (Nat × Nat × G)} (ht : tyOf P t = some ti) (htk : ti.tk = .arr n e s) (hz : ti.zero = some z) (h1 : allOne z = true)
  (hp : PartsR (fun i => some (i * s, s)) parts.toList ps) : ValOk P gl CO (.build t parts) (sBuild z ps) := fun o ho call hc env st K outs hok h => fun B w β tmps hi he => by
 obtain ⟨i, d, hi1, hu, htk', _⟩ := tyOf_spec ht
 rw [htk] at htk'
 obtain ⟨rfl, hse⟩ := tkOf_arr htk'
 obtain ⟨i2, zv, hi2, hzv, hzd, hz1⟩ := denL_zero (P := P) (t := t) (z := z) (by unfold zeroT; rw [ht]; exact hz) h1
 change mapK fV1 z (fun z => fillK env z ps fun cs => K (.agg cs) st) = some outs at h
 rw [mapV1_eq] at h
 obtain ⟨cs, vs, g1, g2, g3, g4⟩ := fillK_den he hp z _ (hzd β) hz1 h
 refine ⟨_, .agg vs.toArray, ?_, g2.agg g3, .of g1⟩
 have hmap : (parts.map fun x => (x.1, (⟨tmps.toArray, []⟩ : Act).eval x.2)).toList = parts.toList.map fun p => (p.1, (⟨tmps.toArray, []⟩ : Act).eval p.2) := by simp
 simp only [execOp, ho, Instr.build, Sem.run_bind, run_zero hi2 hzv, run_underlying hu, Result.andThen_ok, run_size hse, hmap]
 simp only [Array.toArray_toList] at g4
 rw [g4]
 rfl
theorem flat_get {α : Type} (l : List α) (hl : l ≠ []) : ∀ (n i : Nat), i < n * l.length → (List.replicate n l).flatten[i]? = l[i % l.length]?
 | 0, i, h => by simp at h
 | n + 1, i, h => by
  rw [List.replicate_succ, List.flatten_cons]
  by_cases hi : i < l.length
  ·rw [List.getElem?_append_left hi, Nat.mod_eq_of_lt hi]
  ·rw [List.getElem?_append_right (by omega), flat_get l hl n (i - l.length) (by rw [Nat.add_mul] at h; omega)]
   congr 1
   exact (Nat.mod_eq_sub_mod (by omega)).symm
theorem row_repl (zv : Array Value) (n : Nat) (h0 : zv.size ≠ 0) : (List.range (n * zv.size)).map (fun i => zv[i % zv.size]!) = (List.replicate n zv.toList).flatten := by
 apply List.ext_getElem?
 intro i
 rw [List.getElem?_map]
 by_cases hi : i < n * zv.size
 ·rw [List.getElem?_range hi, flat_get _ (by intro e; apply h0; rw [← Array.length_toList, e]; rfl) n i (by simpa using hi)]
  have hm : i % zv.size < zv.size := Nat.mod_lt _ (by omega)
  simp [hm]
 ·rw [List.getElem?_eq_none (by simp; omega), List.getElem?_eq_none]
  ·rfl
  ·simp; omega
theorem zeroE_eq {γ : Type} {e k : Nat} (c : Option (List V) → γ) : (∃ z, zeroT P e = some z ∧ z.length = k ∧ allOne z = true ∧ zeroE P e k c = c (some z)) ∨ zeroE P e k c = c none := by
 unfold zeroE
 cases hz : zeroT P e with
 | none => right; rfl
 | some z =>
  simp only
  cases hb : Nat.beq z.length k && allOne z with
  | true =>
   simp only [Bool.and_eq_true] at hb
   left
   exact ⟨z, rfl, Nat.eq_of_beq_eq_true hb.1, hb.2, by simp only [mapV1_eq]⟩
  | false => right; rfl
theorem denL_repl {z : List V} {e k : Nat} (hz : zeroT P e = some z) (hk : z.length = k) (h1 : allOne z = true) (hk0 : 0 < k) : ∃ i zv, P.info? e = some i ∧ i.zero = some zv ∧ zv.cells.size = k ∧
  ∀ n, (∀ β, DenL β (List.replicate n z).flatten (List.replicate n zv.cells.toList).flatten) ∧ (∀ u ∈ (List.replicate n zv.cells.toList).flatten, u.oneCell' = true) ∧ ((List.replicate n zv.cells.toList).flatten.length = n * k) ∧
   (List.range (n * k)).map (fun i => zv.cells[i % zv.cells.size]!) = (List.replicate n zv.cells.toList).flatten := by
 obtain ⟨i, zv, h2, h3, hd, h1c⟩ := denL_zero hz h1
 have hsz : zv.cells.size = k := by
  have := (hd []).1
  simp at this
  omega
 refine ⟨i, zv, h2, h3, hsz, fun n => ⟨fun β => (hd β).repl n, fun u hu => ?_, ?_, ?_⟩⟩
 ·obtain ⟨l, hl, hul⟩ := List.mem_flatten.1 hu
  rw [(List.mem_replicate.1 hl).2] at hul
  exact h1c u hul
 ·simp [hsz]
 ·have := row_repl zv.cells n (by omega)
  rwa [hsz] at this ⊢
theorem ok_bslice {t : TypeId} {n : Nat} {parts : Array (Nat × Operand)} {e k b : Nat} {z : List V} {ps : List (Nat × Nat × G)} (ht : tkT P t = some (.sl e k b)) (hz : zeroT P e = some z) (hzl : z.length = k) (h1 : allOne z = true) (hn : n * k ≤ 16777216) (hk0 : 0 < k)
  (hp : PartsR (fun i => some (i * k, k)) parts.toList ps) : SemOk P gl CO (.buildSlice t n parts) (sBSlice k n z ps) := fun o ho call hc env st K outs hok h B w β tmps Q hi he => by
 obtain ⟨i, d, hi1, hu, htk'⟩ := tkT_spec ht
 obtain ⟨rfl, ie, hie, hsz, _⟩ := tkOf_sl htk'
 have hse : szOf P e = some k := by simp [szOf, hie, hsz]
 obtain ⟨i2, zv, hi2, hzv, hzs, hrep⟩ := denL_repl hz hzl h1 hk0
 obtain ⟨r1, r2, r3, r4⟩ := hrep n
 change mapK fV1 z (fun z => replK z n [] fun z => fillK env z ps fun cs => st.push (.box cs) fun s => fNat k fun k => fNat n fun n => K (.sl k st.n 0 n (.known n)) s) = some outs at h
 simp only [mapV1_eq, replK_eq, List.append_nil, push_eq, fNat_eq] at h
 obtain ⟨cs, vs, g1, g2, g3, g4⟩ := fillK_den he hp _ _ (r1 β) r2 h
 have hmap : (parts.map fun x => (x.1, (⟨tmps.toArray, []⟩ : Act).eval x.2)).toList = parts.toList.map fun p => (p.1, (⟨tmps.toArray, []⟩ : Act).eval p.2) := by simp
 have hrun : (execOp (⟨tmps.toArray, []⟩ : Act).eval o).run P w = .ok (.value (.slice (some ⟨w.heap.size, 0, none⟩) n n)) (w.alloc (.cells vs.toArray e)) := by
  simp only [execOp, ho, Instr.buildSlice, Sem.run_bind, run_underlying hu, Result.andThen_ok, run_size hse]
  rw [if_neg (by omega)]
  by_cases h0 : n * k = 0
  ·have hrow : (Array.range (n * k)).map (fun i => (#[] : Array Value)[i % (#[] : Array Value).size]!) = (List.replicate n zv.cells.toList).flatten.toArray := by
    have : (List.replicate n zv.cells.toList).flatten = [] := by apply List.eq_nil_of_length_eq_zero; rw [r3]; exact h0
    rw [this, h0]; simp
   rw [if_pos h0]
   simp only [Sem.run_bind, Sem.run_pure, Result.andThen_ok, hrow, hmap]
   rw [g4]
   simp [newRow]
  ·have hrow : (Array.range (n * k)).map (fun i => zv.cells[i % zv.cells.size]!) = (List.replicate n zv.cells.toList).flatten.toArray := by
    apply Array.ext'
    simpa using r4
   rw [if_neg h0]
   simp only [Sem.run_bind, Sem.run_pure, Result.andThen_ok, run_zero hi2 hzv, hrow, hmap]
   rw [g4]
   simp [newRow]
 unfold Oper.wp
 rw [hrun]
 have hlen := hi.len
 refine ⟨_, _, st.add (.box cs), β ++ [w.heap.size], rfl, .of g1, add_good hok _, ?_, ?_, Pre.snoc _ _⟩
 ·have : Den (β ++ [w.heap.size]) (.sl k st.n 0 n (.known n)) (.slice (some ⟨w.heap.size, 0 * k, none⟩) n n) := .sl _ _ _ _ _ _ _ (by rw [← lst_len hok, ← hlen]; simp) rfl (Nat.le_refl _)
  rwa [Nat.zero_mul] at this
 ·rw [add_lst]
  exact hi.alloc _ ⟨vs, e, (0, 0), heap_alloc .., g2.mono (Pre.snoc _ _), g3, by simp⟩
theorem ok_mkslice {t : TypeId} {lx cx : Operand} {e k b : Nat} {z : List V} (ht : tkT P t = some (.sl e k b)) (hz : zeroT P e = some z) (hzl : z.length = k) (h1 : allOne z = true) (hk0 : 0 < k) : SemOk P gl CO (.makeSlice t lx cx) (sMkSlice k b z (opG lx) (opG cx)) := fun o ho call hc env st K outs hok h B w β tmps Q hi he => by
 obtain ⟨i, d, hi1, hu, htk'⟩ := tkT_spec ht
 obtain ⟨rfl, ie, hie, hsz, hby⟩ := tkOf_sl htk'
 have hse : szOf P e = some k := by simp [szOf, hie, hsz]
 obtain ⟨i2, zv, hi2, hzv, hzs, hrep⟩ := denL_repl hz hzl h1 hk0
 obtain ⟨p, hd, h2⟩ := opG_den he h
 obtain ⟨kd, l, rfl, h3⟩ := vNat_some h2
 obtain ⟨q, hq, h4⟩ := opG_den he h3
 obtain ⟨kd', c, rfl, h5⟩ := vNat_some h4
 obtain ⟨hb, h6⟩ := iff_some h5
 simp only [Bool.and_eq_true] at hb
 have hlc := Nat.le_of_ble_eq_true hb.1
 have hbc := Nat.le_of_ble_eq_true hb.2.1
 have hcm := Nat.le_of_ble_eq_true hb.2.2
 simp only [mapV1_eq, replK_eq, List.append_nil, push_eq, fNat_eq] at h6
 obtain ⟨r1, r2, r3, r4⟩ := hrep c
 have hrun : (execOp (⟨tmps.toArray, []⟩ : Act).eval o).run P w = .ok (.value (.slice (some ⟨w.heap.size, 0, none⟩) l c)) (w.alloc (.cells (List.replicate c zv.cells.toList).flatten.toArray e)) := by
  have wl : ∀ n : Nat, n ≤ 1000000 → IntKind.i64.wrap (Int.ofNat n) = Int.ofNat n := fun n hn => wrap_ofNat (k := .i64) (by show n ≤ 9223372036854775807; omega)
  have a1 : ∀ (q : IntKind) (n : Int) (w : World), (Go.asInt (.int q n)).run P w = .ok n w := fun _ _ _ => rfl
  have n1 : decide (Int.ofNat c < 0) = false := decide_eq_false (by show ¬ ((c : Int) < 0); omega)
  have n1' : decide (Int.ofNat l < 0) = false := decide_eq_false (by show ¬ ((l : Int) < 0); omega)
  have n2 : decide ((ie.bytes : Int) * Int.ofNat c > 2 ^ 48) = false := decide_eq_false (by
   rw [hby, show (2 : Int) ^ 48 = 281474976710656 from rfl]
   show ¬ ((b : Int) * (c : Int) > 281474976710656)
   have : ((b * c : Nat) : Int) ≤ 281474976710656 := by omega
   rw [Int.natCast_mul] at this
   omega)
  have n3 : decide (Int.ofNat l > Int.ofNat c) = false := decide_eq_false (by show ¬ ((l : Int) > (c : Int)); omega)
  simp only [execOp, ho, hd.int_inv, hq.int_inv, Instr.makeSlice, Sem.run_bind, run_underlying hu, Result.andThen_ok, a1, run_info hie, wl c hcm, wl l (by omega), n1, n1', n2, n3, Bool.or_false, Bool.false_eq_true, if_false, run_askRoom, run_size hse]
  rw [show (Int.ofNat c).toNat = c from rfl, show (Int.ofNat l).toNat = l from rfl]
  by_cases h0 : c * k = 0
  ·have hrow : (Array.range (c * k)).map (fun i => (#[] : Array Value)[i % (#[] : Array Value).size]!) = (List.replicate c zv.cells.toList).flatten.toArray := by
    have : (List.replicate c zv.cells.toList).flatten = [] := by apply List.eq_nil_of_length_eq_zero; rw [r3]; exact h0
    rw [this, h0]; simp
   rw [if_pos h0]
   simp only [Sem.run_bind, Sem.run_pure, Result.andThen_ok, hrow]
   simp [newRow]
  ·have hrow : (Array.range (c * k)).map (fun i => zv.cells[i % zv.cells.size]!) = (List.replicate c zv.cells.toList).flatten.toArray := by
    apply Array.ext'
    simpa using r4
   rw [if_neg h0]
   simp only [Sem.run_bind, Sem.run_pure, Result.andThen_ok, run_zero hi2 hzv, hrow]
   simp [newRow]
 unfold Oper.wp
 rw [hrun]
 have hlen := hi.len
 refine ⟨_, _, st.add (.box _), β ++ [w.heap.size], rfl, .of h6, add_good hok _, ?_, ?_, Pre.snoc _ _⟩
 ·have : Den (β ++ [w.heap.size]) (.sl k st.n 0 l (.known c)) (.slice (some ⟨w.heap.size, 0 * k, none⟩) l c) := .sl _ _ _ _ _ _ _ (by rw [← lst_len hok, ← hlen]; simp) rfl hlc
  rwa [Nat.zero_mul] at this
 ·rw [add_lst]
  exact hi.alloc _ ⟨_, e, (0, 0), heap_alloc .., r1 _, r2, by simp⟩
theorem zeroCells_eq {k : Nat} (zv : Value) (n : Nat) (hk : zv.cells.size = k) (h : (List.range (n * k)).map (fun i => zv.cells[i % zv.cells.size]!) = (List.replicate n zv.cells.toList).flatten) : Builtin.zeroCells zv.cells n = (List.replicate n zv.cells.toList).flatten.toArray := by
 apply Array.ext'
 rw [← h, ← hk]
 simp [Builtin.zeroCells]
theorem ok_clear {x : Operand} {t : TypeId} {e k b : Nat} {z : List V} {args : Array Operand} {ts : Array TypeId} (ha : args.toList = [x]) (hts : ts.toList = [t]) (ht : tkT P t = some (.sl e k b)) (hz : zeroT P e = some z) (hzl : z.length = k) (h1 : allOne z = true) (hk0 : 0 < k) :
  SemOk P gl CO (.call ⟨.builtin .clear, args, ts⟩) (sClear k z (opG x)) := fun o ho call hc env st K outs hok h B w β tmps Q hi he => by
 obtain ⟨i, d, hi1, hu, htk'⟩ := tkT_spec ht
 obtain ⟨rfl, ie, hie, hsz, hby⟩ := tkOf_sl htk'
 obtain rfl : args = #[x] := Array.ext' ha
 obtain rfl : ts = #[t] := Array.ext' hts
 obtain ⟨i2, zv, hi2, hzv, hzs, hrep⟩ := denL_repl hz hzl h1 hk0
 obtain ⟨p, hd, h2⟩ := opG_den he h
 have fin0 : ∀ a c, (⟨tmps.toArray, []⟩ : Act).eval x = .slice a 0 c → K (.tup []) st = some outs → o.wp P ⟨tmps.toArray, []⟩ w (fun a' w' => ∃ v x st' β', a' = (⟨tmps.toArray, []⟩ : Act).put o.dst v ∧ KOk K outs x st' ∧ Good st st' ∧ Den β' x v ∧ Inv gl B w' β' (lst st') ∧ Pre β β') Q := by
  intro a c hv hK
  have hrun : (execOp (⟨tmps.toArray, []⟩ : Act).eval o).run P w = .ok (.value (.tuple #[])) w := run_builtin ho _ (by
   simp only [Go.builtin, Sem.run_bind]
   cases a <;> simp [Builtin.clear_, run_underlying hu, hv])
  unfold Oper.wp
  rw [hrun]
  exact ⟨_, _, st, β, rfl, .of hK, .refl hok, .tup [] [] rfl (by intro j c v h; simp at h), hi, .refl _⟩
 cases p <;> first | (cases h2; done) | skip
 case nilsl =>
  generalize hv : (⟨tmps.toArray, []⟩ : Act).eval x = v at hd
  cases hd
  exact fin0 _ _ hv h2
 case esl =>
  generalize hv : (⟨tmps.toArray, []⟩ : Act).eval x = v at hd
  cases hd
  exact fin0 _ _ hv h2
 case sl k' j off len cap =>
  obtain ⟨b', c, hb, hcap, hlc, hv⟩ := hd.sl_inv
  change iff (Nat.beq len 0) (K (.tup []) st) (iff (Nat.beq k k') (mapK fV1 z fun z => replK z len [] fun xs => storeK st j (off * k) xs fun s => K (.tup []) s) none) = some outs at h2
  cases h0 : Nat.beq len 0 with
  | true =>
   rw [h0] at h2
   have := Nat.eq_of_beq_eq_true h0
   subst this
   exact fin0 _ _ hv h2
  | false =>
   rw [h0] at h2
   have hl0 := Nat.ne_of_beq_eq_false h0
   obtain ⟨hk, h3⟩ := iff_some (b := Nat.beq k k') h2
   have hkk := Nat.eq_of_beq_eq_true hk
   simp only [mapV1_eq, replK_eq, List.append_nil] at h3
   obtain ⟨ob, ob', hob, hwr, h4, hlt⟩ := storeK_some hok h3
   obtain ⟨r1, r2, r3, r4⟩ := hrep len
   obtain ⟨w', s1, hi'⟩ := write_obj (P := P) hi hb hob hwr (r1 β) r2
   have hrun : (execOp (⟨tmps.toArray, []⟩ : Act).eval o).run P w = .ok (.value (.tuple #[])) w' := run_builtin ho _ (by
    obtain ⟨n, rfl⟩ : ∃ n, len = n + 1 := ⟨len - 1, by omega⟩
    rw [← hkk] at hv
    have hm : #[x].map (⟨tmps.toArray, []⟩ : Act).eval = #[Value.slice (some ⟨b', off * k, none⟩) (n + 1) c] := by simp [hv]
    simp only [Go.builtin, Sem.run_bind, hm, Builtin.clear_, List.getElem?_toArray, List.getElem?_cons_zero, run_underlying hu, Result.andThen_ok, run_zero hi2 hzv, zeroCells_eq zv (n + 1) hzs r4, s1, Sem.run_pure])
   unfold Oper.wp
   rw [hrun]
   refine ⟨_, _, st.put j ob', β, rfl, .of h4, put_good hok hlt _, .tup [] [] rfl (by intro j c v h; simp at h), ?_, Pre.refl _⟩
   rw [put_lst hok hlt]
   exact hi'
end
end
end Go.Ev
namespace Go.Ev
open Go
noncomputable section
section
variable {P : Program} {gl : List (Nat × List V)} {CO : Call → Prop} {β : List Nat} {w : World}
theorem Inv.other {B : Base} {st : List O} (hi : Inv gl B w β st) {b : Nat} (hb : B.Own b) (hno : ∀ j, β[j]? = some b → ¬ liveAt st j) {w' : World} (hsz : w'.heap.size = w.heap.size) (hos : w'.os = w.os) (htp : w'.tape = w.tape) (hou : w'.output = w.output)
  (hoth : ∀ k, k ≠ b → w'.heap[k]? = w.heap[k]?) : Inv gl B w' β st := by
 refine ⟨hi.len, hi.inj, ?_, hi.own, by rw [hsz]; exact hi.size, ?_, hos.trans hi.os, htp.trans hi.tape, hou.trans hi.output, hi.glob, hi.pre⟩
 ·intro i c o h1 h2
  refine (hi.obj i c o h1 h2).mono (Pre.refl _) fun hl => hoth c fun e => ?_
  subst e; exact hno i h1 ⟨o, h2, hl⟩
 ·intro k hk
  rw [hoth k (fun e => hk (e ▸ hb))]; exact hi.keep k hk
theorem Inv.adopt {B : Base} {st : List O} (hi : Inv gl B w β st) {b : Nat} (hb : B.Own b) (hno : ∀ j, β[j]? = some b → ¬ liveAt st j) {x : O} (hx : ObjRel (β ++ [b]) w b x) : Inv gl B w (β ++ [b]) (st ++ [x]) := by
 have hlen := hi.len
 have hget : ∀ {i c}, (β ++ [b])[i]? = some c → (i < st.length ∧ β[i]? = some c) ∨ (i = st.length ∧ c = b) := by
  intro i c h
  by_cases hi' : i < β.length
  ·rw [List.getElem?_append_left hi'] at h; exact .inl ⟨by omega, h⟩
  ·rw [List.getElem?_append_right (by omega)] at h
   cases hk : i - β.length with
   | zero => rw [hk] at h; simp at h; exact .inr ⟨by omega, h.symm⟩
   | succ n => rw [hk] at h; simp at h
 refine ⟨by simp [hlen], ?_, ?_, ?_, hi.size, hi.keep, hi.os, hi.tape, hi.output, hi.glob, hi.pre.trans (Pre.snoc _ _)⟩
 ·intro i j c h1 h2 l1 l2
  rcases hget h1 with ⟨a1, b1⟩ | ⟨a1, b1⟩ <;> rcases hget h2 with ⟨a2, b2⟩ | ⟨a2, b2⟩
  ·exact hi.inj i j c b1 b2 (liveAt_snoc l1 a1) (liveAt_snoc l2 a2)
  ·subst b2; exact (hno i b1 (liveAt_snoc l1 a1)).elim
  ·subst b1; exact (hno j b2 (liveAt_snoc l2 a2)).elim
  ·omega
 ·intro i c o h1 h2
  rcases hget h1 with ⟨a1, b1⟩ | ⟨a1, b1⟩
  ·rw [List.getElem?_append_left a1] at h2
   exact (hi.obj i c o b1 h2).mono (Pre.snoc _ _) fun _ => rfl
  ·subst a1 b1
   rw [List.getElem?_append_right (Nat.le_refl _)] at h2
   simp at h2
   subst h2
   exact hx
 ·intro i c h1 l1
  rcases hget h1 with ⟨a1, b1⟩ | ⟨a1, b1⟩
  ·exact hi.own i c b1 (liveAt_snoc l1 a1)
  ·rw [b1]; exact hb
theorem cap_cut (need old e t : Nat) (h : need ≤ maxLen) : need ≤ (Question.appendCap need old e).cut t ∧ (Question.appendCap need old e).cut t ≤ maxLen := by
 simp only [Question.cut]
 unfold maxLen at h ⊢
 have := Nat.mod_lt t (show 2 ^ 63 - need > 0 by omega)
 omega
structure NewR (P : Program) (w : World) (e k : Nat) (ts : Array TypeId) (y : Value) (m : Nat) (us : List Value) : Prop where
 len : us.length = m * k
 run : ∀ (ty : TypeId) (base : Option Addr) (n cap : Nat) (t : TypeId) (u : TypeId) (ie : TypeInfo), ts = #[t, u] → P.underlying t = some (.slice e) → P.info? e = some ie → ie.size = k → 0 < ie.bytes → (n + m) * ie.bytes ≤ 140737488355328 →
  (n + m ≤ cap → ∀ w', (∀ a, base = some a → (storeCells (a.add (n * k)) us).run P w = .ok () w') → (base = none → w' = w) → (Builtin.append_ ts ty #[.slice base n cap, y]).run P w = .ok (.slice base (n + m) cap) w') ∧
  (cap < n + m → ∀ (zv : Value) (old : List Value), ie.zero = some zv → (∀ w2 : World, w2.heap = w.heap → (Builtin.firstCells k n (.slice base n cap)).run P w2 = .ok old.toArray w2) →
   (Builtin.append_ ts ty #[.slice base n cap, y]).run P w = .ok (.slice (some ⟨w.heap.size, 0, none⟩) (n + m) ((Question.appendCap (n + m) cap e).cut (w.tape w.drawn (Question.appendCap (n + m) cap e))))
    (({ w with drawn := w.drawn + 1 } : World).alloc (.cells (old ++ (us ++ (Builtin.zeroCells zv.cells ((Question.appendCap (n + m) cap e).cut (w.tape w.drawn (Question.appendCap (n + m) cap e)) - (n + m))).toList)).toArray e)))
theorem newR_of {e k t u : Nat} {y : Value} {m : Nat} {us : List Value} (hul : us.length = m * k) (hu2 : ∀ kd, P.underlying u ≠ some (.int kd)) (hu2' : (P.underlying u).isSome) (hm : (Builtin.lenOf y).run P w = .ok m w) (hnew : ∀ w2 : World, w2.heap = w.heap → (Builtin.firstCells k m y).run P w2 = .ok us.toArray w2) :
  NewR P w e k #[t, u] y m us := by
 refine ⟨hul, ?_⟩
 intro ty base n cap t' u' ie hts hut hie hsz hb0 hbd
 have ht : t' = t ∧ u' = u := by
  have h1 := congrArg (fun a => a[0]?) hts
  have h2 := congrArg (fun a => a[1]?) hts
  simp at h1 h2
  exact ⟨h1.symm, h2.symm⟩
 obtain ⟨rfl, rfl⟩ := ht
 obtain ⟨du, hdu⟩ := Option.isSome_iff_exists.1 hu2'
 have hsr : ∀ w', (sizeOf e).run P w' = .ok k w' := fun w' => run_size (by simp [szOf, hie, hsz]) w'
 have hir : ∀ w', (typeInfo e).run P w' = .ok ie w' := fun w' => run_info hie w'
 have hz0 : ∀ (w : World), (match du with | .int _ => true | _ => false : Bool) = false := fun _ => by
  cases du <;> first | rfl | (exact absurd hdu (hu2 _))
 constructor
 ·intro hg w' hst hnone
  cases du <;> first | (exact absurd hdu (hu2 _)) | skip
  all_goals (
   simp only [Builtin.append_, List.getElem?_toArray, List.getElem?_cons_zero, List.getElem?_cons_succ, Sem.run_bind, run_underlying hut, run_underlying hdu, Result.andThen_ok, hsr, Sem.run_pure, Bool.false_eq_true, if_false, hm]
   rw [if_pos hg]
   simp only [Sem.run_bind, hnew w rfl, Result.andThen_ok, Bool.not_false, if_true]
   cases base with
   | none => rw [hnone rfl]; rfl
   | some a => simp only [Sem.run_bind, hst a rfl, Result.andThen_ok, Sem.run_pure])
 ·intro hg zv old hz hold
  have hzr : ∀ w', (zeroValue e).run P w' = .ok zv w' := fun w' => run_zero hie hz w'
  have hfits : ¬ (Builtin.nextslicecap (n + m) cap * ie.bytes > 2 ^ 48) := by
   have := growslice_fits (need := n + m) (old := cap) (bytes := ie.bytes) hg hbd
   omega
  have hbz : ¬ ie.bytes = 0 := by omega
  have hfo : (Question.appendCap (n + m) cap e).forced = false := rfl
  cases du <;> first | (exact absurd hdu (hu2 _)) | skip
  all_goals (
   simp only [Builtin.append_, List.getElem?_toArray, List.getElem?_cons_zero, List.getElem?_cons_succ, Sem.run_bind, run_underlying hut, run_underlying hdu, Result.andThen_ok, hsr, Sem.run_pure, Bool.false_eq_true, if_false, hm]
   rw [if_neg (by omega)]
   simp only [Sem.run_bind, hir, Result.andThen_ok, hbz]
   rw [if_neg (by simp)]
   simp only [Sem.run_bind, hir, Result.andThen_ok]
   rw [if_neg hfits]
   simp only [Sem.run_bind, run_choose, hfo, Bool.false_eq_true, if_false, Result.andThen_ok, hir, run_askRoom, hold { w with drawn := w.drawn + 1 } rfl, hnew { w with drawn := w.drawn + 1 } rfl, hzr, Bool.not_false, if_true]
   simp [newRow]
   congr 2
   apply Array.ext'
   simp)
theorem newR_zero {e k t u : Nat} {m : Nat} {kd kd' : IntKind} {ie : TypeInfo} {zv : Value} (hu : P.underlying u = some (.int kd)) (hie : P.info? e = some ie) (hz : ie.zero = some zv) (hzs : zv.cells.size = k) (_hk0 : 0 < k) (hm : m ≤ 1000000) {us : List Value}
  (hul : us.length = m * k) (hus : (List.range (m * k)).map (fun i => zv.cells[i % zv.cells.size]!) = us) : NewR P w e k #[t, u] (.int kd' (.ofNat m)) m us := by
 refine ⟨hul, ?_⟩
 intro ty base n cap t' u' ie' hts hut hie' hsz hb0 hbd
 have ht : t' = t ∧ u' = u := by
  have h1 := congrArg (fun a => a[0]?) hts
  have h2 := congrArg (fun a => a[1]?) hts
  simp at h1 h2
  exact ⟨h1.symm, h2.symm⟩
 obtain ⟨rfl, rfl⟩ := ht
 rw [hie] at hie'
 cases hie'
 have hsr : ∀ w', (sizeOf e).run P w' = .ok k w' := fun w' => run_size (by simp [szOf, hie, hsz]) w'
 have hir : ∀ w', (typeInfo e).run P w' = .ok ie w' := fun w' => run_info hie w'
 have hzr : ∀ w', (zeroValue e).run P w' = .ok zv w' := fun w' => run_zero hie hz w'
 have wl : IntKind.i64.wrap (Int.ofNat m) = Int.ofNat m := wrap_ofNat (k := .i64) (by show m ≤ 9223372036854775807; omega)
 have a1 : ∀ (q : IntKind) (n : Int) (w : World), (Go.asInt (.int q n)).run P w = .ok n w := fun _ _ _ => rfl
 have c1 : ¬ (Int.ofNat m < 0) := by show ¬ ((m : Int) < 0); omega
 have hmb : m * ie.bytes ≤ 140737488355328 := Nat.le_trans (Nat.mul_le_mul_right _ (by omega)) hbd
 have c2 : ¬ (Int.ofNat m * (ie.bytes : Int) > 2 ^ 48) := by
  rw [show (2 : Int) ^ 48 = 281474976710656 from rfl]
  show ¬ ((m : Int) * (ie.bytes : Int) > 281474976710656)
  have : ((m * ie.bytes : Nat) : Int) ≤ 140737488355328 := by omega
  rw [Int.natCast_mul] at this
  omega
 have hzc : (if m * k = 0 then (#[] : Array Value) else Builtin.zeroCells zv.cells m) = us.toArray := by
  by_cases h0 : m * k = 0
  ·rw [if_pos h0]
   have : us = [] := by apply List.eq_nil_of_length_eq_zero; rw [hul]; exact h0
   rw [this]
  ·rw [if_neg h0]
   apply Array.ext'
   rw [← hus, ← hzs]
   simp [Builtin.zeroCells]
 have happ : ∀ w2 : World, ((if m * k = 0 then pure #[] else do pure (Builtin.zeroCells (← zeroValue e).cells m) : Sem (Array Value))).run P w2 = .ok us.toArray w2 := fun w2 => by
  rw [← hzc]
  by_cases h0 : m * k = 0
  ·rw [if_pos h0, if_pos h0]; rfl
  ·rw [if_neg h0, if_neg h0]
   simp only [Sem.run_bind, hzr, Result.andThen_ok, Sem.run_pure]
 constructor
 ·intro hg w' hst hnone
  simp only [Builtin.append_, List.getElem?_toArray, List.getElem?_cons_zero, List.getElem?_cons_succ, Sem.run_bind, run_underlying hut, run_underlying hu, Result.andThen_ok, hsr, Sem.run_pure, if_true, a1, wl]
  rw [if_neg c1]
  simp only [Sem.run_bind, hir, Result.andThen_ok]
  rw [if_neg c2]
  simp only [Sem.run_bind, Sem.run_pure, Result.andThen_ok, show (Int.ofNat m).toNat = m from rfl]
  rw [if_pos hg]
  simp only [Sem.run_bind, Bool.not_true, Bool.false_eq_true, if_false, happ, Result.andThen_ok]
  cases base with
  | none => rw [hnone rfl]; rfl
  | some a => simp only [Sem.run_bind, hst a rfl, Result.andThen_ok, Sem.run_pure]
 ·intro hg zv' old hz' hold
  rw [hz] at hz'
  cases hz'
  have hfits : ¬ (Builtin.nextslicecap (n + m) cap * ie.bytes > 2 ^ 48) := by
   have := growslice_fits (need := n + m) (old := cap) (bytes := ie.bytes) hg hbd
   omega
  have hfo : (Question.appendCap (n + m) cap e).forced = false := rfl
  have hbig : ¬ (((n + m : Nat) : Int) > IntKind.i64.max ∧ (True ∨ ie.bytes = 0)) := by
   rintro ⟨h1, _⟩
   have : n + m ≤ 140737488355328 := Nat.le_trans (Nat.le_mul_of_pos_right _ hb0) hbd
   have e : IntKind.i64.max = 9223372036854775807 := rfl
   rw [e] at h1
   omega
  simp only [Builtin.append_, List.getElem?_toArray, List.getElem?_cons_zero, List.getElem?_cons_succ, Sem.run_bind, run_underlying hut, run_underlying hu, Result.andThen_ok, hsr, Sem.run_pure, if_true, a1, wl]
  rw [if_neg c1]
  simp only [Sem.run_bind, hir, Result.andThen_ok]
  rw [if_neg c2]
  simp only [Sem.run_bind, Sem.run_pure, Result.andThen_ok, show (Int.ofNat m).toNat = m from rfl]
  rw [if_neg (by omega)]
  simp only [Sem.run_bind, hir, Result.andThen_ok]
  rw [if_neg hbig]
  simp only [Sem.run_bind, hir, Result.andThen_ok]
  rw [if_neg hfits]
  simp only [Sem.run_bind, run_choose, hfo, Bool.false_eq_true, if_false, Result.andThen_ok, hir, run_askRoom, hold { w with drawn := w.drawn + 1 } rfl, Bool.not_true, happ, hzr]
  simp [newRow]
  congr 2
  apply Array.ext'
  simp
theorem elemsK_den {B : Base} {st : St} (hok : st.Ok) (hi : Inv gl B w β (lst st)) {k : Nat} {p : V} {v : Value} (hd : Den β p v) {K : Nat → List V → R} {outs : List Dl} (h : elemsK k st p K = some outs) :
  ∃ m cs us, K m cs = some outs ∧ DenL β cs us ∧ (∀ u ∈ us, u.oneCell' = true) ∧ us.length = m * k ∧ (Builtin.lenOf v).run P w = .ok m w ∧ ∀ w2 : World, w2.heap = w.heap → (Builtin.firstCells k m v).run P w2 = .ok (us : List Value).toArray w2 := by
 cases p <;> first | (cases h; done) | skip
 case nilsl =>
  cases hd
  exact ⟨0, [], [], h, .nil, by simp, by simp, rfl, fun w2 _ => rfl⟩
 case esl =>
  cases hd with
  | esl a c =>
   refine ⟨0, [], [], h, .nil, by simp, by simp, rfl, fun w2 _ => ?_⟩
   cases a with
   | none => rfl
   | some a => simp [Builtin.firstCells, loadCells, loadCellsFrom]
 case sl k' i off len cap =>
  obtain ⟨b, c, hb, hcap, hlc, rfl⟩ := hd.sl_inv
  obtain ⟨hk, h1⟩ := iff_some h
  have hkk := Nat.eq_of_beq_eq_true hk
  subst hkk
  obtain ⟨ob, h2, hob⟩ := obj_some hok h1
  obtain ⟨cs, hcs, h3⟩ := cellsK_some h2
  have hob' : (lst st)[i]? = some ob := by
   rcases hob with rfl | hob
   ·rcases hcs with hcs | ⟨_, _, hcs⟩ <;> cases hcs
   ·exact hob
  simp only [dropK_eq, takeK_eq] at h3
  obtain ⟨hlen, h4⟩ := iff_some h3
  have hlen' := Nat.eq_of_beq_eq_true hlen
  obtain ⟨vs, T, fr, g1, g2, g3, g4, g5⟩ := row_of hi hb hob' hcs
  have hle : off * k + len * k ≤ cs.length ∨ len * k = 0 := by
   simp at hlen'
   omega
  refine ⟨len, _, ((vs.take cs.length).drop (off * k)).take (len * k), h4, (g3.drop _).take _, fun u hu => g4 u (List.mem_of_mem_drop (List.mem_of_mem_take hu)), ?_, rfl, fun w2 hw2 => ?_⟩
  ·rw [← ((g3.drop (off * k)).take (len * k)).1]; exact hlen'
  ·have hc2 : ∀ j, w2.cell? ⟨b, j, none⟩ = vs[j]? := fun j => by simp [World.cell?, hw2, g1]
   have hl := run_loadCells_list (P := P) w2 ⟨b, off * k, none⟩ (((vs.take cs.length).drop (off * k)).take (len * k)) (fun j v hj => by
    rw [addr_add, hc2]
    rw [List.getElem?_take] at hj
    split at hj
    ·rw [List.getElem?_drop, List.getElem?_take] at hj
     split at hj
     ·exact hj
     ·cases hj
    ·cases hj)
   have hlen2 : (((vs.take cs.length).drop (off * k)).take (len * k)).length = len * k := by rw [← ((g3.drop (off * k)).take (len * k)).1]; exact hlen'
   rw [hlen2] at hl
   simpa only [Builtin.firstCells] using hl
theorem newVec_ok {B : Base} {st : St} (hok : st.Ok) {β0 : List Nat} {w : World} (hi : Inv gl B w β0 (lst st)) {k n : Nat} {cs : List V} {K : KS} {outs : List Dl} (h : newVec k n cs st K = some outs) {e : TypeId} {vs : List Value} {c : Nat} (hl : DenL β0 cs (vs.take cs.length)) (hle : cs.length ≤ vs.length)
  (h1 : ∀ u ∈ vs, u.oneCell' = true) (hvs : vs.length = c * k) (hnc : n ≤ c) :
  ∃ x st' β', KOk K outs x st' ∧ Good st st' ∧ Den β' x (.slice (some ⟨w.heap.size, 0, none⟩) n c) ∧ Inv gl B ((({ w with drawn := w.drawn + 1 } : World).alloc (.cells vs.toArray e))) β' (lst st') ∧ Pre β0 β' := by
 change st.push .dead (fun s => s.push (.vec k st.n cs) fun s' => K (.sl k s.n 0 n (.ghost st.n)) s') = some outs at h
 rw [push_eq, push_eq] at h
 have hlen := hi.len
 have hln := lst_len hok
 have hi2 := hi.ghost c
 have hg0 : (β0 ++ [c])[st.n]? = some c := by rw [← hln, ← hlen]; simp
 refine ⟨_, (st.add .dead).add (.vec k st.n cs), β0 ++ [c] ++ [w.heap.size], .of h, (add_good hok _).trans (add_good (add_ok hok _) _), ?_, ?_, (Pre.snoc _ _).trans (Pre.snoc _ _)⟩
 ·have : Den (β0 ++ [c] ++ [w.heap.size]) (.sl k (st.add .dead).n 0 n (.ghost st.n)) (.slice (some ⟨w.heap.size, 0 * k, none⟩) n c) := .sl _ _ _ _ _ _ _ (by
   have : (st.add .dead).n = (β0 ++ [c]).length := by show st.n + 1 = _; rw [← hln, ← hlen]; simp
   rw [this]; simp) (by show (β0 ++ [c] ++ [w.heap.size])[st.n]? = some (0 + c); rw [Nat.zero_add]; exact Pre.snoc _ _ _ _ hg0) hnc
  rwa [Nat.zero_mul] at this
 ·rw [add_lst, add_lst]
  have hsz : ({ w with drawn := w.drawn + 1 } : World).heap.size = w.heap.size := rfl
  refine hi2.push (w' := (({ w with drawn := w.drawn + 1 } : World).alloc (.cells vs.toArray e))) (Nat.le_refl _) (by show w.heap.size ≤ (w.heap.push _).size; simp) (fun j hj => heap_alloc_lt ({ w with drawn := w.drawn + 1 } : World) _ hj) rfl rfl rfl ?_
  exact ⟨c, vs, e, (0, 0), Pre.snoc _ _ _ _ hg0, heap_alloc ({ w with drawn := w.drawn + 1 } : World) _, hvs, hle, (hl.mono (Pre.snoc _ _)).mono (Pre.snoc _ _), fun u hu => h1 u (List.mem_of_mem_take hu), by simp⟩
end
end
end Go.Ev
