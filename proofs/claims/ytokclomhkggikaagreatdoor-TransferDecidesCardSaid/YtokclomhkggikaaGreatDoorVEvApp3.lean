/-
 The appends, and the builtins.
-/
import Derived.Test.YtokclomhkggikaaGreatDoorVEvFun
namespace Go.Ev
open Go
noncomputable section
section
variable {P : Program} {gl : List (Nat × List V)} {CO : Call → Prop}
theorem ok_append {x y : Operand} {t u e e' k k' b b' : Nat} {z : List V} {args : Array Operand} {ts : Array TypeId} (ha : args.toList = [x, y]) (hts : ts.toList = [t, u]) (ht : tkT P t = some (.sl e k b)) (hut : tkT P u = some (.sl e' k' b')) (hz : zeroT P e = some z) (hzl : z.length = k) (h1z : allOne z = true) (hb0 : 0 < b) (hk0 : 0 < k) :
  SemOk P gl CO (.call ⟨.builtin .append, args, ts⟩) (sAppend k b (opG x) (opG y)) := fun o ho call hc env st K outs hok h B w β tmps Q hi he => by
 obtain rfl : args = #[x, y] := Array.ext' ha
 obtain rfl : ts = #[t, u] := Array.ext' hts
 obtain ⟨q, hq, h1⟩ := opG_den he h
 obtain ⟨m, new, us, h2, g1, g2, g3, g4, g5⟩ := elemsK_den hok hi hq h1
 obtain ⟨p, hp, h3⟩ := opG_den he h2
 obtain ⟨i, d, _, hu, htk⟩ := tkT_spec hut
 obtain ⟨rfl, _⟩ := tkOf_sl htk
 exact appendK_ok hok hi ho ht hz hzl h1z hb0 hk0 hp (newR_of g3 (fun kd hk => by rw [hu] at hk; cases hk) (by rw [hu]; rfl) g4 g5) g1 g2 h3
theorem ok_appendS {x y : Operand} {t u e b : Nat} {z : List V} {args : Array Operand} {ts : Array TypeId} (ha : args.toList = [x, y]) (hts : ts.toList = [t, u]) (ht : tkT P t = some (.sl e 1 b)) (hut : tkT P u = some .str) (hz : zeroT P e = some z) (hzl : z.length = 1) (h1z : allOne z = true) (hb0 : 0 < b) :
  SemOk P gl CO (.call ⟨.builtin .append, args, ts⟩) (sAppendS b (opG x) (opG y)) := fun o ho call hc env st K outs hok h B w β tmps Q hi he => by
 obtain rfl : args = #[x, y] := Array.ext' ha
 obtain rfl : ts = #[t, u] := Array.ext' hts
 obtain ⟨q, hq, h1⟩ := opG_den he h
 cases q <;> first | (cases h1; done) | skip
 rename_i s
 have hv := hq.str_inv
 have h2 : mapK (fun (b : UInt8) k => fNat b.toNat fun n => k (V.int .u8 (.ofNat n))) s (fun l => fNat s.length fun n => opG x env fun v => appendK 1 b v n l st K) = some outs := h1
 replace h2 := (mapK_eq (f := fun (b : UInt8) (k : V → R) => fNat b.toNat fun n => k (V.int .u8 (.ofNat n))) (fun b : UInt8 => V.int .u8 (.ofNat b.toNat)) (fun _ _ => rfl) s _).symm.trans h2
 simp only [fNat_eq] at h2
 obtain ⟨p, hp, h3⟩ := opG_den he h2
 obtain ⟨i, d, _, hu, htk⟩ := tkT_spec hut
 obtain rfl := tkOf_str htk
 refine appendK_ok (us := s.map fun b => Value.int .u8 b.toNat) hok hi ho ht hz hzl h1z hb0 (by omega) hp (newR_of (by simp) (fun kd hk => by rw [hu] at hk; cases hk) (by rw [hu]; rfl) (by rw [hv]; rfl) (fun w2 _ => ?_)) ⟨by simp, fun j c v hc hv' => ?_⟩ (fun u hu => ?_) h3
 ·rw [hv]
  simp only [Builtin.firstCells, Sem.run_pure]
  congr 1
  apply Array.ext'
  simp [ByteArray.extract, ByteArray.copySlice]
 ·rw [List.getElem?_map] at hc hv'
  cases hx : s[j]? with
  | none => rw [hx] at hc; cases hc
  | some y => rw [hx] at hc hv'; cases hc; cases hv'; exact .int ..
 ·obtain ⟨y, _, rfl⟩ := List.mem_map.1 hu; rfl
theorem ok_appendZ {x y : Operand} {t u e k b : Nat} {kd : IntKind} {z : List V} {args : Array Operand} {ts : Array TypeId} (ha : args.toList = [x, y]) (hts : ts.toList = [t, u]) (ht : tkT P t = some (.sl e k b)) (hut : tkT P u = some (.int kd)) (hz : zeroT P e = some z) (hzl : z.length = k) (h1z : allOne z = true) (hb0 : 0 < b) (hk0 : 0 < k) :
  SemOk P gl CO (.call ⟨.builtin .append, args, ts⟩) (sAppendZ k b z (opG x) (opG y)) := fun o ho call hc env st K outs hok h B w β tmps Q hi he => by
 obtain rfl : args = #[x, y] := Array.ext' ha
 obtain rfl : ts = #[t, u] := Array.ext' hts
 obtain ⟨q, hq, h1⟩ := opG_den he h
 obtain ⟨kd', m, rfl, h2⟩ := vNat_some h1
 obtain ⟨hm, h3⟩ := iff_some h2
 rw [mapV1_eq, replK_eq, List.append_nil] at h3
 obtain ⟨p, hp, h4⟩ := opG_den he h3
 obtain ⟨i, d, _, hu, htk⟩ := tkT_spec hut
 obtain rfl := tkOf_int htk
 obtain ⟨ie, zv, hie, hzv, hzs, hrep⟩ := denL_repl hz hzl h1z hk0
 obtain ⟨r1, r2, r3, r4⟩ := hrep m
 have hv := hq.int_inv
 exact appendK_ok (us := (List.replicate m zv.cells.toList).flatten) hok hi ho ht hz hzl h1z hb0 hk0 hp (by rw [hv]; exact newR_zero hu hie hzv hzs hk0 (Nat.le_of_ble_eq_true hm) r3 r4) (r1 β) r2 h4
theorem opR_builtin {b : Builtin} {args : Array Operand} {ts : Array TypeId} {s : Sm} (h : compB P b args.toList ts.toList = some s) : OpR P gl CO (.call ⟨.builtin b, args, ts⟩) s := by
 unfold compB at h
 split at h
 ·rename_i x t ha hts
  split at h
  ·rename_i ht
   simp only [fNat_eq] at h
   cases h
   exact .val (ok_lenC ha hts ht) (by intro _ _ h; cases h) fun _ _ _ _ _ _ _ => rfl
  ·rename_i ht
   simp only [withO_eq] at h
   cases h
   exact .val (ok_lenS ha hts ht) (by intro _ _ h; cases h) fun _ _ _ _ _ _ _ => rfl
  ·rename_i ht
   simp only [withO_eq] at h
   cases h
   exact .val (ok_lenL ha hts ht) (by intro _ _ h; cases h) fun _ _ _ _ _ _ _ => rfl
  ·cases h
 ·rename_i x t ha hts
  split at h
  ·rename_i ht
   simp only [withO_eq] at h
   cases h
   exact .val (ok_capL ha hts ht) (by intro _ _ h; cases h) fun _ _ _ _ _ _ _ => rfl
  ·cases h
 ·rename_i x y t u ha hts
  split at h
  ·rename_i e k b ht
   split at h
   ·rename_i hbk
    rw [Bool.and_eq_true] at hbk
    simp only [fNat_eq] at h
    rcases zeroE_eq (P := P) (e := e) (k := k) (fun z => match z with
     | some z => withO x fun x => withO y fun y => match tkT P u with
      | some (.sl _ _ _) => some (sAppend k b x y)
      | some .str => match Nat.beq k 1 with
       | true => some (sAppendS b x y)
       | false => none
      | some (.int _) => some (sAppendZ k b z x y)
      | _ => none
     | none => none) with ⟨z, h1, h2, h3, h4⟩ | h4
    ·replace h := h4.symm.trans h
     simp only [withO_eq] at h
     split at h
     ·rename_i hut
      cases h
      exact .sem rfl (ok_append ha hts ht hut h1 h2 h3 (blt_iff.1 hbk.1) (blt_iff.1 hbk.2))
     ·rename_i hut
      split at h
      ·rename_i hk
       have := Nat.eq_of_beq_eq_true hk
       subst this
       cases h
       exact .sem rfl (ok_appendS ha hts ht hut h1 h2 h3 (blt_iff.1 hbk.1))
      ·cases h
     ·rename_i hut
      cases h
      exact .sem rfl (ok_appendZ ha hts ht hut h1 h2 h3 (blt_iff.1 hbk.1) (blt_iff.1 hbk.2))
     ·cases h
    ·replace h := h4.symm.trans h
     cases h
   ·cases h
  ·cases h
 ·rename_i x t ha hts
  split at h
  ·rename_i e k b ht
   split at h
   ·rename_i hk
    simp only [fNat_eq] at h
    rcases zeroE_eq (P := P) (e := e) (k := k) (fun z => match z with
     | some z => withO x fun x => some (sClear k z x)
     | none => none) with ⟨z, h1, h2, h3, h4⟩ | h4
    ·replace h := h4.symm.trans h
     simp only [withO_eq] at h
     cases h
     exact .sem rfl (ok_clear ha hts ht h1 h2 h3 (blt_iff.1 hk))
    ·replace h := h4.symm.trans h
     cases h
   ·cases h
  ·cases h
 ·simp only [withL_eq] at h
  cases h
  exact .val (ok_mnmx (isMax := false)) (by intro _ _ h; cases h) fun _ _ _ _ _ _ _ => rfl
 ·simp only [withL_eq] at h
  cases h
  exact .val (ok_mnmx (isMax := true)) (by intro _ _ h; cases h) fun _ _ _ _ _ _ _ => rfl
 ·cases h
def mapOp : Op → Bool
 | .makeMap _ _ | .lookup _ _ _ _ | .mapUpdate _ _ _ _ | .insert _ _ _ _ | .mapEntry _ _ _ | .entryStore _ _ _ _ | .range _ _ | .next _ _ | .entry _ => true
 | _ => false
theorem opR_of (hmaps : ∀ op s, mapOp op = true → compOp P gl op = some s → SemOk P gl (CallOk P gl) op s) {op : Op} {s : Sm} (h : compOp P gl op = some s) : OpR P gl (CallOk P gl) op s := by
 cases op
 case move x => simp only [compOp, withO_eq] at h; cases h; exact .val (ok_move (.inl rfl)) (by intro _ _ h; cases h) fun _ _ _ _ _ _ _ => rfl
 case assign x => simp only [compOp, withO_eq] at h; cases h; exact .val (ok_move (.inr rfl)) (by intro _ _ h; cases h) fun _ _ _ _ _ _ _ => rfl
 case pick => simp only [compOp, withO_eq] at h; cases h; exact .val ok_pick (by intro _ _ h; cases h) fun _ _ _ _ _ _ _ => rfl
 case nilCheck => simp only [compOp, withO_eq] at h; cases h; exact .val ok_nil (by intro _ _ h; cases h) fun _ _ _ _ _ _ _ => rfl
 case extract => simp only [compOp, withO_eq, fNat_eq] at h; cases h; exact .val ok_extract (by intro _ _ h; cases h) fun _ _ _ _ _ _ _ => rfl
 case box => simp only [compOp, withO_eq] at h; cases h; exact .sem rfl ok_box
 case load => exact opR_load h
 case fieldAddr => exact opR_fieldAddr h
 case field => exact opR_field h
 case store => exact opR_store h
 case alloc => exact opR_alloc h
 case makeInterface => exact opR_iface h
 case makeFunc => exact opR_mkfn h
 case unOp => exact opR_unOp h
 case binOp => exact opR_binOp h
 case convert => exact opR_conv h
 case indexAddr => exact opR_indexAddr h
 case index => exact opR_index h
 case slice => exact opR_slice h
 case makeSlice => exact opR_makeSlice h
 case build => exact opR_build h
 case buildSlice => exact opR_buildSlice h
 case call c =>
  obtain ⟨cal, args, ats⟩ := c
  cases cal with
  | value f =>
   simp only [compOp, withO_eq, withL_eq] at h
   cases h
   exact .sem rfl ok_call
  | invoke _ _ => cases h
  | builtin b => exact opR_builtin h
 all_goals first
  | exact .sem rfl (hmaps _ _ rfl h)
  | (cases h; done)
end
end
end Go.Ev
