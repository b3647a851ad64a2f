/-
 Sorting a row of ranges by where they begin.
 The common part of two canonical lists, computed with two pointers; a test whether a list is canonical.
-/
import Derived.WalkKit
import Derived.Test.YtkaobkjcjodffaaGreatDoorHShelf2
import Derived.Test.YtkaobkjcjodffaaGreatDoorGPwFrz
import Derived.Test.YtkaobkjcjodffaaGreatDoorGPwFork
import Derived.Test.YtkaobkjcjodffaaGreatDoorHTab
import Derived.Test.YtkaobkjcjodffaaGreatDoorGPwAuto
import Derived.Test.YtkaobkjcjodffaaGreatDoorGPwGlob
set_option maxHeartbeats 20000000
set_option maxRecDepth 100000
namespace Go.Proofs.YtkaobkjcjodffaaGreatDoor
open Go Go.Pw
section
open Go.RowKit Go.Lib Go.Sort
variable {Gl : Glob}
def cmpI (a b : Int) : Int := if a < b then -1 else if a > b then 1 else 0
theorem w_isNaN (n : Int) (w : World) : Calls Tryz.prog 224 #[.int .u32 n] w fun e w' => e = .returned (.bool false) ∧ w' = w := by
 go_enter Tryz.func224, Tryz.ntmps224
 go_wp2
 go_ret
 exact ⟨rfl, rfl⟩
theorem w_cmp (a b : Int) (w : World) : Calls Tryz.prog 206 #[.int .u32 a, .int .u32 b] w fun e w' => e = .returned (.int .i64 (cmpI a b)) ∧ w' = w := by
 have h1 := fun w => w_isNaN a w
 have h2 := fun w => w_isNaN b w
 unfold cmpI
 by_cases c1 : a < b
 ·rw [if_pos c1]
  go_enter Tryz.func206, Tryz.ntmps206
  go_wp2_with (go_at_call 224; first | (refine (h1 _).mono ?_; rintro e w' ⟨rfl, rfl⟩) | (refine (h2 _).mono ?_; rintro e w' ⟨rfl, rfl⟩))
  go_ret
  exact ⟨rfl, rfl⟩
 ·rw [if_neg c1]
  by_cases c2 : a > b
  ·rw [if_pos c2]
   go_enter Tryz.func206, Tryz.ntmps206
   go_wp2_with (go_at_call 224; first | (refine (h1 _).mono ?_; rintro e w' ⟨rfl, rfl⟩) | (refine (h2 _).mono ?_; rintro e w' ⟨rfl, rfl⟩))
   go_ret
   exact ⟨rfl, rfl⟩
  ·rw [if_neg c2]
   go_enter Tryz.func206, Tryz.ntmps206
   go_wp2_with (go_at_call 224; first | (refine (h1 _).mono ?_; rintro e w' ⟨rfl, rfl⟩) | (refine (h2 _).mono ?_; rintro e w' ⟨rfl, rfl⟩))
   go_ret
   exact ⟨rfl, rfl⟩
theorem w_byLo (x y : TRng) (W : World) : Calls Tryz.prog 205 #[.agg #[.int .u32 x.lo, .int .u32 x.hi], .agg #[.int .u32 y.lo, .int .u32 y.hi]] W fun e w' => e = .returned (.int .i64 (cmpI x.lo y.lo)) ∧ ∃ q os', w' = grow (W.drewN q) os' := by
 have hcon := fun W' => w_cmp x.lo y.lo W'
 generalize cmpI x.lo y.lo = r at hcon ⊢
 go_enter Tryz.func205, Tryz.ntmps205
 go_wp2_with (go_at_call 206; refine (hcon _).mono ?_; rintro e w' ⟨rfl, rfl⟩)
 go_ret
 exact ⟨rfl, 0, _, by rw [alloc_eq_grow, alloc_eq_grow, grow_grow]; rfl⟩
def encR (x : TRng) : List Value := [.int .u32 x.lo, .int .u32 x.hi]
theorem ltLo (x y : TRng) : ltOf (fun x y : TRng => cmpI x.lo y.lo) x y = decide (x.lo < y.lo) := by
 unfold ltOf cmpI
 by_cases h1 : x.lo < y.lo
 ·simp [h1]
 ·by_cases h2 : y.lo < x.lo <;> simp [h1, h2]
theorem swoLo : SWO (ltOf fun x y : TRng => cmpI x.lo y.lo) where
 irrefl x := by rw [ltLo]; simp
 trans x y z h1 h2 := by rw [ltLo] at *; simp at *; omega
 ntrans x y z h1 h2 := by rw [ltLo] at *; simp at *; omega
theorem flat_at (d : Array TRng) (i c : Nat) (hi : i < d.size) (hc : c < 2) : (flatK encR 2 d)[i * 2 + c]! = (encR d[i]!)[c]! := by
 rw [get_flatK encR 2 d (i * 2 + c) (by omega), show (i * 2 + c) / 2 = i by omega, show (i * 2 + c) % 2 = c by omega]
theorem sort_run {B : Base} {A : Nat → Prop} {w : World} {β : List Nat} {st : List PObj} {i b cap : Nat} {d : List TRng} (hi : Inv Gl B A w β st) (hst : st[i]? = some (.arr 2 (d.map eRng) cap)) (hb : β[i]? = some b) (hc : cap ≠ 0) (hd : d.length < 4611686018427387904) :
  Calls Tryz.prog 204 #[.slice (some ⟨b, 0 * 2, none⟩) d.length cap, .func (.func 205) #[] #[]] w fun e w' =>
   e = .returned (.tuple #[]) ∧ ∃ d' : List TRng, d'.Perm d ∧ (d'.Pairwise fun a b => a.lo ≤ b.lo) ∧ Inv Gl B A w' β (st.set i (.arr 2 (d'.map eRng) cap)) ∧ Ext A w A w' := by
 obtain ⟨hlc, hcm, hck, h0⟩ := hi.obj i b _ hb hst
 obtain ⟨vs, T, fr, hh, hvl, hfr, hel⟩ := h0 hc
 rw [List.length_map] at hlc
 have hblk : b < w.heap.size := (Array.getElem?_eq_some_iff.1 hh).1
 have hcell : ∀ (i c : Nat) (hi : i < d.length), c < 2 → vs[i * 2 + c]? = some (encR d[i])[c]! := fun i c hi hc2 => by
  have hx : (d.map eRng)[i]? = some (eRng d[i]) := by simp [hi]
  match c, hc2 with
  | 0, _ => obtain ⟨v, hv, hdn⟩ := hel i _ 0 (.int .u32 d[i].lo) hx rfl; cases hdn; exact hv
  | 1, _ => obtain ⟨v, hv, hdn⟩ := hel i _ 1 (.int .u32 d[i].hi) hx rfl; cases hdn; exact hv
 have hH : HoldsK encR 2 w b (0 * 2) d.toArray := fun j hj => by
  rw [size_flatK] at hj
  have hj' : j < d.length * 2 := hj
  have h2 := hcell (j / 2) (j % 2) (by omega) (by omega)
  rw [show j / 2 * 2 + j % 2 = j by omega] at h2
  refine ⟨?_, ?_⟩
  ·simp only [World.cell?, hh]
   have h3 := flat_at d.toArray (j / 2) (j % 2) (by show j / 2 < d.length; omega) (by omega)
   rw [show j / 2 * 2 + j % 2 = j by omega] at h3
   show vs.toArray[0 * 2 + j]? = _
   rw [List.getElem?_toArray, show 0 * 2 + j = j by omega, h2]
   show some _ = some ((flatK encR 2 d.toArray)[j]!)
   rw [h3, getElem!_pos d.toArray (j / 2) (by show j / 2 < d.length; omega)]
   rfl
  ·have := hfr j (by omega)
   simp only [World.frozen?, hh]
   rw [show 0 * 2 + j = j by omega]
   simp only [Bool.and_eq_false_iff, decide_eq_false_iff_not]
   omega
 have hcon := AnyQ.slices_SortFunc Tryz.laysSort 2 Tryz.isAgg85 Tryz.sizeOf85 encR (fun _ => rfl) (fun x v hv => by simp [encR] at hv; rcases hv with rfl | rfl <;> rfl) (fun x y => cmpI x.lo y.lo) swoLo 205 #[] b (0 * 2) cap d.toArray w
  (enters_of Tryz.func205 (by kernel_rfl) rfl) (fun _ _ _ _ x y => w_byLo x y _) hH hblk hd
 refine Calls.mono hcon ?_
 rintro e w' ⟨rfl, d', n, os, hp, hs, rfl⟩
 have hds : d'.size = d.length := hp.1
 have hperm : d'.toList.Perm d := by
  have h1 : d'.extract 0 d.toArray.size = d' := by rw [show d.toArray.size = d'.size from hds.symm, Array.extract_size]
  have h2 : d.toArray.extract 0 d.toArray.size = d.toArray := Array.extract_size
  have := hp.2.2
  rw [h1, h2] at this
  exact this
 have hsort : d'.toList.Pairwise fun a b => a.lo ≤ b.lo := by
  rw [List.pairwise_iff_getElem]
  intro i j hi' hj' hij
  have := hs i j (Nat.zero_le _) hij (by show j < d.length; rw [← hds]; exact hj')
  rw [ltLo, getElem!_pos d' i (by simpa using hi'), getElem!_pos d' j (by simpa using hj')] at this
  simp only [decide_eq_false_iff_not] at this
  simp only [Array.getElem_toList]
  omega
 -- the world with the row rewritten
 have hi1 : Inv Gl B A (Sort.ahead w n) β st :=
  ⟨hi.len, hi.inj, fun i b o h1 h2 => (hi.obj i b o h1 h2).mono ⟨fun _ h => h, fun _ _ => rfl⟩ (.refl _) rfl, hi.notA, hi.own, hi.lt, hi.new, hi.old, hi.size, hi.os, hi.tape, hi.output, hi.keep, hi.glob, hi.pre, hi.apart⟩
 have hHd := holdsK_putRowK encR 2 (Sort.ahead w n) b (0 * 2) d.toArray d' (holdsK_ahead encR 2 w n b (0 * 2) d.toArray hH) hds
 have hhb : (putRowK encR 2 (Sort.ahead w n) b (0 * 2) d').heap[b]? = some (.cells (putCells id (0 * 2) (flatK encR 2 d') vs.toArray) T fr) := by
  show (Array.modify w.heap b _)[b]? = _
  rw [Array.getElem?_modify, if_pos rfl, hh]
  rfl
 have hobj : ObjRel A β (putRowK encR 2 (Sort.ahead w n) b (0 * 2) d') b (.arr 2 (d'.toList.map eRng) cap) := by
  refine ⟨by simp; omega, hcm, by simp only [List.mem_map]; rintro _ ⟨x, _, rfl⟩; rfl, fun _ => ⟨(putCells id (0 * 2) (flatK encR 2 d') vs.toArray).toList, T, fr, by rw [hhb], by simp [putCells, hvl], hfr, fun i x j c hx hj => ?_⟩⟩
  rw [List.getElem?_map] at hx
  cases hxi : d'.toList[i]? with
  | none => rw [hxi] at hx; cases hx
  | some r =>
   rw [hxi] at hx
   cases hx
   have hil : i < d'.size := by have := (List.getElem?_eq_some_iff.1 hxi).1; simpa using this
   have hri : d'[i]! = r := by
    rw [getElem!_pos d' i hil]
    have := List.getElem?_eq_some_iff.1 hxi
    obtain ⟨h1, h2⟩ := this
    simpa using h2
   have key : ∀ c < 2, (putCells id (0 * 2) (flatK encR 2 d') vs.toArray).toList[i * 2 + c]? = some (encR r)[c]! := fun c hc2 => by
    have := (hHd (i * 2 + c) (by rw [size_flatK]; omega)).1
    rw [World.cell?, hhb] at this
    simp only [Option.isSome_none, Bool.false_eq_true, if_false] at this
    rw [show 0 * 2 + (i * 2 + c) = i * 2 + c by omega] at this
    rw [Array.getElem?_toList, this]
    show some ((flatK encR 2 d')[i * 2 + c]!) = _
    rw [flat_at d' i c hil hc2, hri]
   match j, hj with
   | 0, hj => cases hj; exact ⟨_, key 0 (by decide), .int ..⟩
   | 1, hj => cases hj; exact ⟨_, key 1 (by decide), .int ..⟩
   | j + 2, hj => cases hj
 obtain ⟨hi2, hE⟩ := hi1.write (w' := putRowK encR 2 (Sort.ahead w n) b (0 * 2) d') hb hst (by cases cap with | zero => exact absurd rfl hc | succ n => rfl) (size_putRow ..) rfl rfl rfl (fun k hk => by
  show (Array.modify w.heap b _)[k]? = _
  rw [Array.getElem?_modify, if_neg (Ne.symm hk)]; rfl) hobj
 obtain ⟨hi3, hE3⟩ := hi2.below (w' := grow (putRowK encR 2 (Sort.ahead w n) b (0 * 2) d') os) ⟨rfl, rfl, rfl, by rw [Go.Sort.size_grow]; omega, fun k hk => Go.Sort.heap_grow_old _ _ hk⟩
 exact ⟨rfl, d'.toList, hperm, hsort, hi3, ⟨fun _ h => h, fun b hb => (hE3.same b hb).trans (hE.same b hb)⟩⟩
theorem op_sort {B : Base} {env : List PV} {st : List PObj} {o : Oper} {K : PV → List PObj → Prop} {x y : Operand} {ats : Array TypeId} {i cap : Nat} {d : List TRng} (ho : o.op = .call ⟨.value (.func 204), #[x, y], ats⟩)
  (hx : pe env x = .msl 2 i 0 (d.map eRng).length cap) (hy : pe env y = .fn 205 []) (hst : st[i]? = some (.arr 2 (d.map eRng) cap)) (hc : cap ≠ 0) (hd : d.length < 4611686018427387904)
  (hK : ∀ d' : List TRng, d'.Perm d → (d'.Pairwise fun a b => a.lo ≤ b.lo) → K (.tup []) (st.set i (.arr 2 (d'.map eRng) cap))) : OpP Tryz.prog Gl B o env st K := fun A w β tmps Q hi he => by
 have d0 := he.eval [] x
 have d1 := he.eval [] y
 rw [hx] at d0
 rw [hy] at d1
 obtain ⟨b, hb, h0⟩ := d0.msl_inv hc
 obtain ⟨cs, h1, hcl, _⟩ := d1.fn_inv
 obtain rfl : cs = [] := List.length_eq_zero_iff.1 hcl.symm
 unfold Oper.wp
 have hrun : (execOp (⟨tmps.toArray, []⟩ : Act).eval o).run Tryz.prog w = .ok (.enter 204 #[.slice (some ⟨b, 0 * 2, none⟩) d.length cap, .func (.func 205) #[] #[]]) w := by
  simp only [execOp, ho, Go.resolve, Act.eval, Deferred.ofValue, Sem.run_bind, Sem.run_pure, Result.andThen_ok, invoke]
  rw [e204]
  congr 2
  have : #[x, y].map (⟨tmps.toArray, []⟩ : Act).eval = #[.slice (some ⟨b, 0 * 2, none⟩) d.length cap, .func (.func 205) #[] #[]] := by simp [h0, h1]
  simpa using this
 rw [hrun]
 refine (sort_run hi hst hb hc hd).mono ?_
 rintro e w' ⟨rfl, d', hp, hs, hi', hE⟩
 exact ⟨_, _, _, A, β, rfl, hK d' hp hs, .tup β [] [] rfl (by intro j c v h; simp at h), hi', hE, .refl _⟩
end
section
variable {Gl : Glob}
attribute [local irreducible] PW PWL OpP PCalls PWO
def RIn (r : TRng) : Prop := (0 ≤ r.lo ∧ r.lo < 4294967296) ∧ 0 ≤ r.hi ∧ r.hi < 4294967296
theorem mstep_in {out : List TRng} {r : TRng} (h : ∀ x ∈ out, RIn x) (hr : RIn r) : ∀ x ∈ mstep out r, RIn x := by
 rcases List.eq_nil_or_concat out with rfl | ⟨a, q, rfl⟩
 ·rw [mstep_nil]; intro x hx; rw [List.mem_singleton] at hx; subst hx; exact hr
 ·rw [List.concat_eq_append] at *
  rw [mstep_snoc]
  have hq := h q (by simp)
  split
  ·intro x hx
   rcases List.mem_append.1 hx with hx | hx
   ·exact h x (by simp [hx])
   ·rw [List.mem_singleton] at hx; subst hx
    unfold RIn at *
    dsimp only
    omega
  ·intro x hx
   rcases List.mem_append.1 hx with hx | hx
   ·exact h x hx
   ·rw [List.mem_singleton] at hx; subst hx; exact hr
theorem mstep_len (out : List TRng) (r : TRng) : (mstep out r).length ≤ out.length + 1 := by
 rcases List.eq_nil_or_concat out with rfl | ⟨a, q, rfl⟩
 ·simp [mstep_nil]
 ·rw [List.concat_eq_append, mstep_snoc]
  split <;> simp
theorem filt_snoc {l : List TRng} {i : Nat} (h : i < l.length) : (l.take (i + 1)).filter (fun r => decide (r.lo ≤ r.hi)) = (l.take i).filter (fun r => decide (r.lo ≤ r.hi)) ++ (if l[i].lo ≤ l[i].hi then [l[i]] else []) := by
 rw [List.take_succ_eq_append_getElem h, List.filter_append]
 congr 1
 by_cases hc : l[i].lo ≤ l[i].hi <;> simp [hc]
theorem c_canonical (l : List TRng) (hl : l.length < 4294967296) (hin : ∀ r ∈ l, RIn r) (hne : l.filter (fun r => decide (r.lo ≤ r.hi)) ≠ []) : PFun Tryz.prog Gl 174 [.sl (l.map eRng)] fun r => r = .sl ((canon l).map eRng) := by
 (refine PFun.of hT Tryz.func174 rfl fun B hD => ?_; refine pw_norm rfl ?_)
 (repeat' (first | refine zS ?_ | refine zq5 ?_ | refine zq6 ?_ | (refine zT ?_ ?_ <;> intro h <;> first | exact zX | refine zNq ?_)))
 refine pw_ghost 2 ?_
 refine pw_ghost 2 ?_
 refine zNq ?_
 refine pw_for hD (fun a : Nat × Nat => [(3, .msl 2 0 0 (((l.take a.1).filter fun r => decide (r.lo ≤ r.hi)).map eRng).length a.2), (12, .int .i64 a.1)]) (fun a => [.arr 2 (((l.take a.1).filter fun r => decide (r.lo ≤ r.hi)).map eRng) a.2, .arr 2 [] 0]) (fun a => a.1 ≤ l.length) (fun a => l.length - a.1) (0, 0) (Nat.zero_le _) 2 rfl (fun _ => rfl) zLes (fun _ => rfl) (fun _ => rfl) zLe ?_
 rintro ⟨i, cap⟩ hi
 dsimp only at hi ⊢
 (repeat' (first | refine zS ?_ | refine zq5 ?_ | refine zq6 ?_ | (refine zT ?_ ?_ <;> intro h <;> first | exact zX | refine zNq ?_)))
 ·have hlt : i < l.length := by omega
  have hg : l.getD i default = l[i] := by rw [List.getD, List.getElem?_eq_getElem hlt]; rfl
  have hfl := List.length_filter_le (fun r : TRng => decide (r.lo ≤ r.hi)) (l.take i)
  have htl : (l.take i).length ≤ i := List.length_take_le ..
  (refine pl_append (b := 8) hT hD rfl rfl rfl rfl rfl rfl rfl rfl (.inl (Nat.zero_lt_succ _)) rfl rfl (by simp; omega) (fun cap' _ hcap => ?_); (refine zNp ?_))
  (repeat' (first | refine zS ?_ | refine zq5 ?_ | refine zq6 ?_ | (refine zT ?_ ?_ <;> intro h <;> first | exact zX | refine zNq ?_)))
  refine ⟨(i + 1, cap'), hlt, by show _ - (i + 1) < _ - i; omega, ?_, ?_⟩
  all_goals
   rw [hg] at h ⊢
   simp only [filt_snoc hlt, if_pos h, List.map_append, List.length_append, List.map_cons, List.map_nil]
  ·(exact zLe)
  ·(exact zLes)
 ·have hlt : i < l.length := by omega
  have hg : l.getD i default = l[i] := by rw [List.getD, List.getElem?_eq_getElem hlt]; rfl
  refine ⟨(i + 1, cap), hlt, by show _ - (i + 1) < _ - i; omega, ?_, ?_⟩
  all_goals
   rw [hg] at h
   simp only [filt_snoc hlt, if_neg h, List.append_nil]
  ·(exact zLe)
  ·(exact zLes)
 have hie : i = l.length := by omega
 subst hie
 rw [List.take_length]
 clear h hi
 have hfl := List.length_filter_le (fun r : TRng => decide (r.lo ≤ r.hi)) l
 have hpf := canon_ok l
 have hcan : ∀ d : List TRng, d.Perm (l.filter fun r => decide (r.lo ≤ r.hi)) → (d.Pairwise fun a b => a.lo ≤ b.lo) → mergeAll d = canon l := fun d h1 h2 => merge_canon h1 h2
 have hfin : ∀ r ∈ l.filter (fun r => decide (r.lo ≤ r.hi)), RIn r := fun r hr => hin r (List.mem_filter.1 hr).1
 generalize l.filter (fun r => decide (r.lo ≤ r.hi)) = f at hne hfl hcan hfin ⊢
 have hfp : 0 < f.length := List.length_pos_iff.2 hne
 refine pl_room 0 rfl fun hroom => ?_
 have hcap : cap ≠ 0 := by simp at hroom; omega
 refine pl_op rfl (op_sort rfl rfl rfl rfl hcap (by omega) fun d hdp hds => ?_)
 refine zNp ?_
 rw [← hdp.length_eq] at hfp
 have hdin : ∀ r ∈ d, RIn r := fun r hr => hfin r (hdp.mem_iff.1 hr)
 have hfin2 := hcan d hdp hds
 have hdl := hdp.length_eq
 refine pl_nil ?_
 rw [List.length_map, ← hdl]
 refine pw_seq ?_
 refine pw_frz1 0 3 rfl rfl (List.length_map ..).symm ?_
 refine zNq ?_
 (repeat' (first | refine zS ?_ | refine zq5 ?_ | refine zq6 ?_ | (refine zT ?_ ?_ <;> intro h <;> first | exact zX | refine zNq ?_)))
 clear hpf hcan hne hroom hcap hdp hfin hin
 refine pw_for hD (fun a : Nat × Nat => [(4, .msl 2 1 0 ((mergeAll (d.take a.1)).map eRng).length a.2), (30, .int .i64 a.1)]) (fun a => [.dead, .arr 2 ((mergeAll (d.take a.1)).map eRng) a.2])
  (fun a => a.1 ≤ d.length ∧ (∀ x ∈ mergeAll (d.take a.1), RIn x) ∧ (mergeAll (d.take a.1)).length ≤ a.1) (fun a => d.length - a.1) (0, 0) ⟨Nat.zero_le _, by intro x hx; simp [mergeAll] at hx, by simp [mergeAll]⟩ 2 rfl (fun _ => rfl) zLes (fun _ => rfl) (fun _ => rfl) zLe ?_
 rintro ⟨i, cap'⟩ ⟨hi, ho, hol⟩
 dsimp only at hi ho hol ⊢
 have hnext : ∀ h : i < d.length, mergeAll (d.take (i + 1)) = mstep (mergeAll (d.take i)) d[i] := fun h => by
  rw [List.take_succ_eq_append_getElem h, mergeAll, List.foldl_append]; rfl
 by_cases hlt : i < d.length
 ·have hg : d.getD i default = d[i] := by rw [List.getD, List.getElem?_eq_getElem hlt]; rfl
  have hn := hnext hlt
  have hri := hdin d[i] (List.getElem_mem hlt)
  rw [← hg] at hn hri
  have hst : ∀ x ∈ mstep (mergeAll (d.take i)) (d.getD i default), RIn x := mstep_in ho hri
  have hsl := mstep_len (mergeAll (d.take i)) (d.getD i default)
  rw [← hn] at hst hsl
  refine pw_room 1 rfl fun hroom => ?_
  rw [List.length_map] at hroom
  generalize mergeAll (d.take i) = out at ho hol hn hsl hroom ⊢
  unfold RIn at hri
  rcases List.eq_nil_or_concat out with rfl | ⟨a, q, rfl⟩
  ·have hnl : ([] : List TRng).length = 0 := rfl
   (repeat' (first | (refine zDr [[0,1,2,3,4,5,6,7,8,9,10,11,12,13,14,15]] ?_; refine zDn ?_) | (refine zDr [[0,1,2,3,4,5,6,7,8,9,10,11,12,13],[14]] ?_; refine zDn ?_) | refine zS ?_ | refine zD ?_ | refine po_both ?_ ?_ | refine pwt_both ?_ ?_ | refine pwt_fork ?_ | refine pwt_lin ?_ | (refine po_test rfl rfl rfl rfl zB ?_ ?_ <;> intro hb <;> first | exact zX | refine zDn ?_) | refine zq5 ?_ | refine zq6 ?_ | (refine zT ?_ ?_ <;> intro h <;> first | exact zX | refine zNq ?_)))
   (refine pl_append (b := 8) hT hD rfl rfl rfl rfl rfl rfl rfl rfl (.inl (Nat.zero_lt_succ _)) rfl rfl (by simp) (fun cap2 _ hcap => ?_); (refine zNp ?_))
   (repeat' (first | refine zS ?_ | refine zq5 ?_ | refine zq6 ?_ | (refine zT ?_ ?_ <;> intro h <;> first | exact zX | refine zNq ?_)))
   rw [mstep_nil] at hn
   refine ⟨(i + 1, cap2), ⟨hlt, hst, by show (mergeAll (d.take (i + 1))).length ≤ i + 1; omega⟩, by show _ - (i + 1) < _ - i; omega, ?_, ?_⟩
   all_goals simp only [hn]
   ·(exact zLe)
   ·(exact zLes)
  ·rw [List.concat_eq_append] at *
   have hq := ho q (by simp)
   have hll : (a ++ [q]).length = a.length + 1 := by simp
   unfold RIn at hq
   have hc0 : cap' ≠ 0 := by omega
   have hix : ((a ++ [q]).map eRng)[0 + (((a ++ [q]).length : Int) - 1).toNat]? = some (eRng q) := by rw [show 0 + (((a ++ [q]).length : Int) - 1).toNat = a.length by omega]; simp
   (repeat' (first | (refine zDr [[0,1,2,3,4,5,6,7,8,9,10,11,12,13,14,15]] ?_; refine zDn ?_) | (refine zDr [[0,1,2,3,4,5,6,7,8,9,10,11,12,13],[14]] ?_; refine zDn ?_) | refine zS ?_ | refine zD ?_ | refine po_both ?_ ?_ | refine pwt_both ?_ ?_ | refine pwt_fork ?_ | refine pwt_lin ?_ | (refine po_test rfl rfl rfl rfl zB ?_ ?_ <;> intro hb <;> first | exact zX | refine zDn ?_) | refine zq5 ?_ | refine zq6 ?_ | (refine zT ?_ ?_ <;> intro h <;> first | exact zX | refine zNq ?_)))
   (refine po_gval rfl rfl rfl (v_indexm hT rfl rfl rfl rfl rfl (by omega) (by simp; omega) hc0) ?_; refine zDn ?_)
   refine zD ?_
   (refine po_gloadE (x0 := eRng q) rfl rfl rfl hT rfl rfl rfl rfl rfl (hc0) (hix) rfl ?_; (first | refine po_norm rfl ?_ | refine po_normE rfl ?_))
   (repeat' (first | (refine zDr [[0,1,2,3,4,5,6,7,8,9,10,11,12,13,14,15]] ?_; refine zDn ?_) | (refine zDr [[0,1,2,3,4,5,6,7,8,9,10,11,12,13],[14]] ?_; refine zDn ?_) | refine zS ?_ | refine zD ?_ | refine po_both ?_ ?_ | refine pwt_both ?_ ?_ | refine pwt_fork ?_ | refine pwt_lin ?_ | (refine po_test rfl rfl rfl rfl zB ?_ ?_ <;> intro hb <;> first | exact zX | refine zDn ?_) | refine zq5 ?_ | refine zq6 ?_ | (refine zT ?_ ?_ <;> intro h <;> first | exact zX | refine zNq ?_)))
   ·(refine po_val rfl rfl (v_indexm hT rfl rfl rfl rfl rfl (by omega) (by simp; omega) hc0) ?_; refine zDn ?_)
    refine zD ?_
    (refine po_loadE (x0 := eRng q) rfl rfl hT rfl rfl rfl rfl rfl (hc0) (hix) rfl ?_; refine zDn ?_)
    refine zD ?_
    (refine po_val rfl rfl (v_max rfl rfl rfl) ?_; refine zDn ?_)
    (refine po_val rfl rfl (v_indexm hT rfl rfl rfl rfl rfl (by omega) (by simp; omega) hc0) ?_; refine zDn ?_)
    refine zD ?_
    (refine po_step rfl rfl (op_storeE' (x0 := eRng q) (x1 := eRng ⟨q.lo, max q.hi (d.getD i default).hi⟩) (xs' := (a ++ [(⟨q.lo, max q.hi (d.getD i default).hi⟩ : TRng)]).map eRng) hT rfl rfl rfl rfl rfl (hc0) (hix) rfl rfl rfl rfl (Nat.le_of_ble_eq_true rfl) rfl (by rw [show 0 + (((a ++ [q]).length : Int) - 1).toNat = a.length by omega]; simp) ⟨zLok, ?_⟩); refine zDn ?_)
    refine zD ?_
    (repeat' (first | refine zS ?_ | refine zq5 ?_ | refine zq6 ?_ | (refine zT ?_ ?_ <;> intro h <;> first | exact zX | refine zNq ?_)))
    rw [mstep_snoc, if_pos h] at hn
    refine ⟨(i + 1, cap'), ⟨hlt, hst, by show (mergeAll (d.take (i + 1))).length ≤ i + 1; omega⟩, by show _ - (i + 1) < _ - i; omega, ?_, ?_⟩
    all_goals simp only [hn, List.map_append, List.length_append, List.map_cons, List.map_nil]
    ·(exact zLe)
    ·(exact zLes)
   ·rw [mstep_snoc, if_neg h] at hn
    (refine pl_append (b := 8) hT hD rfl rfl rfl rfl rfl rfl rfl rfl (.inl (Nat.zero_lt_succ _)) rfl rfl (by simp; omega) (fun cap2 _ hcap => ?_); (refine zNp ?_))
    (repeat' (first | refine zS ?_ | refine zq5 ?_ | refine zq6 ?_ | (refine zT ?_ ?_ <;> intro h <;> first | exact zX | refine zNq ?_)))
    refine ⟨(i + 1, cap2), ⟨hlt, hst, by show (mergeAll (d.take (i + 1))).length ≤ i + 1; omega⟩, by show _ - (i + 1) < _ - i; omega, ?_, ?_⟩
    all_goals simp only [hn, List.map_append, List.length_append, List.map_cons, List.map_nil]
    ·(exact zLe)
    ·(exact zLes)
 have hie : i = d.length := by omega
 subst hie
 rw [List.take_length, hfin2]
 (repeat' (first | refine zS ?_ | refine zq5 ?_ | refine zq6 ?_ | (refine zT ?_ ?_ <;> intro h <;> first | exact zX | refine zNq ?_)))
 exact ret0 _ (.sl ((canon l).map eRng)) rfl rfl (.inr (.inr (.inr (.inl ⟨_, _, _, _, _, _, rfl, rfl, rfl, rfl, rfl⟩)))) rfl
theorem PFun.le {P : Program} {f : FuncId} {args args' : List PV} {R : PV → Prop} (h : PFun P Gl f args' R) (hl : Le args args') : PFun P Gl f args R := by
 unfold PFun PCalls at *
 exact fun A w β vals hi ha => h A w β vals hi (EnvRel.weaken ha hl)
theorem c_grow (n : Nat) (h0 : 0 < n) (h1 : n < 4294967296) : PCalls Tryz.prog Gl 207 [.nilsl, .int .i64 n] [] fun r s => ∃ cap, cap ≠ 0 ∧ r = .msl 2 0 0 0 cap ∧ s = [.arr 2 [] cap] := by
 unfold PCalls
 intro A w β vals hi ha
 obtain ⟨hl, har⟩ := ha
 match vals, hl with
 | [v0, v1], _ =>
 have d0 := har 0 _ _ rfl rfl
 have d1 := har 1 _ _ rfl rfl
 obtain rfl := d1.int_inv
 cases d0
 obtain ⟨e, tie, zv, hty, hb⟩ := appOk_spec (T := 74) (T2 := 74) (s := 2) (b := 8) hT rfl
 obtain rfl : e = 85 := by
  have h1 := hty.u
  have h2 := Tryz.underlying74
  rw [h2] at h1
  cases h1; rfl
 have hbl : β = [] := List.length_eq_zero_iff.1 hi.len
 subst hbl
 have hcon := Any8.slices_Grow_grow Tryz.laysGrow tie zv hty.i hty.z (by rw [hty.sz]; decide) none 0 0 n [] w (Nat.le_refl _) (by omega) (by rw [hty.by']; omega) (by omega) (by simp) (fun _ => rfl) (fun a h => by cases h)
 refine Calls.mono hcon ?_
 rintro e w' ⟨rfl, rfl⟩
 have hge := grownCap_ge w (0 + n) 0 (Tryz.laysGrow_ren.t 25)
 have hle := grownCap_le_maxLen w (0 + n) 0 (Tryz.laysGrow_ren.t 25) (by unfold maxLen; omega)
 generalize grownCap w (0 + n) 0 (Tryz.laysGrow_ren.t 25) = G at hge hle ⊢
 have hx : ObjRel A ([] ++ [w.drew.heap.size]) (w.drew.alloc (.cells (([] : List Value).toArray ++ Builtin.zeroCells zv.cells (0 + n - 0) ++ Builtin.zeroCells zv.cells (G - (0 + n))) (Tryz.laysGrow_ren.t 25))) w.drew.heap.size (.arr 2 [] G) := by
  refine ⟨Nat.zero_le _, hle, by simp, fun _ => ⟨(([] : List Value).toArray ++ Builtin.zeroCells zv.cells (0 + n - 0) ++ Builtin.zeroCells zv.cells (G - (0 + n))).toList, Tryz.laysGrow_ren.t 25, ((0 : Nat), (0 : Nat)), ?_, ?_, fun j _ h => absurd h.2 (Nat.not_lt_zero _), by simp⟩⟩
  ·rw [Array.toArray_toList]
   show (w.drew.heap.push _)[w.drew.heap.size]? = _
   rw [Array.getElem?_push_size]
  ·have e1 := zeroCells_len zv (0 + n - 0)
   have e2 := zeroCells_len zv (G - (0 + n))
   rw [hty.zs] at e1 e2
   simp only [Array.toList_append, List.length_append, e1, e2]
   simp
   omega
 have hi2 := Inv.snoc (hi.drew) _ _ hx
 refine ⟨.msl 2 0 0 0 G, _, _, A, _, rfl, ⟨G, by omega, rfl, rfl⟩, ?_, hi2⟩
 exact .msl _ 2 0 0 0 G _ rfl
theorem c_concat (a : List TRng) (h0 : a ≠ []) (hl : a.length < 4294967296) : PFun Tryz.prog Gl 175 [.sl [.sl (a.map eRng), .sl []]] fun r => r = .sl (a.map eRng) := by
 (refine PFun.of hT Tryz.func175 rfl fun B hD => ?_; refine pw_norm rfl ?_)
 have hpos : 0 < a.length := List.length_pos_iff.2 h0
 have hall : ∀ l : List TRng, (l.map eRng).all (fun y => y.cells.length == 2) = true := fun l => by simp only [List.all_map]; exact List.all_eq_true.2 fun _ _ => rfl
 have hone : ∀ l : List TRng, (l.map eRng).all (fun y => y.cells.all PV.one) = true := fun l => by simp only [List.all_map]; exact List.all_eq_true.2 fun _ _ => rfl
 (repeat' (first | refine zS ?_ | (refine zT ?_ ?_ <;> intro h <;> first | exact zX | refine zNq ?_)))
 refine pw_for hD (fun i : Nat => [(11, .int .i64 i), (3, .int .i64 (if i = 0 then 0 else (a.length : Int)))]) (fun _ => []) (fun i => i ≤ 2) (fun i => 2 - i) 0 (by omega) 0 rfl (fun _ => rfl) zLes (fun _ => rfl) (fun _ => rfl) zLe ?_
 intro i hi
 have hi' : i = 0 ∨ i = 1 ∨ i = 2 := by omega
 rcases hi' with rfl | rfl | rfl
 ·(repeat' (first | refine zS ?_ | (refine zT ?_ ?_ <;> intro h <;> first | exact zX | refine zNq ?_)))
  (refine pl_op rfl (op_of (v_index (p := .sl (a.map eRng)) hT rfl rfl rfl rfl (by omega) rfl rfl) ?_); (refine zNp ?_))
  (repeat' (first | refine zS ?_ | (refine zT ?_ ?_ <;> intro h <;> first | exact zX | refine zNq ?_)))
  exact ⟨1, by omega, by omega, by simp only [if_true, Int.zero_add]; (exact zLe), zLes⟩
 ·rw [if_neg (show ¬ (1 : Nat) = 0 by decide)]
  (repeat' (first | refine zS ?_ | (refine zT ?_ ?_ <;> intro h <;> first | exact zX | refine zNq ?_)))
  (refine pl_op rfl (op_of (v_index (p := .sl []) hT rfl rfl rfl rfl (by omega) rfl rfl) ?_); (refine zNp ?_))
  have hz : ([] : List PV).length = 0 := rfl
  (repeat' (first | refine zS ?_ | (refine zT ?_ ?_ <;> intro h <;> first | exact zX | refine zNq ?_)))
  exact ⟨2, by omega, by omega, by simp only [hz, Int.add_zero, show ¬ (2 : Nat) = 0 by decide, if_false, Int.natCast_zero]; (exact zLe), zLes⟩
 rw [if_neg (show ¬ (2 : Nat) = 0 by decide)]
 (repeat' (first | refine zS ?_ | (refine zT ?_ ?_ <;> intro h <;> first | exact zX | refine zNq ?_)))
 (refine pl_op rfl (zCl [] e207 (c_grow a.length hpos hl) (fun r s hq => ?_)); obtain ⟨cap, hcap, rfl, rfl⟩ := hq; refine ⟨rfl, rfl, ?_⟩; (refine zNp ?_))
 (repeat' (first | refine zS ?_ | (refine zT ?_ ?_ <;> intro h <;> first | exact zX | refine zNq ?_)))
 refine pw_for hD (fun i : Nat × Nat => [(27, .int .i64 i.1), (24, .any), (6, .msl 2 0 0 (if i.1 = 0 then [] else a.map eRng).length i.2)]) (fun i => [.arr 2 (if i.1 = 0 then [] else a.map eRng) i.2]) (fun i => i.1 ≤ 2 ∧ i.2 ≠ 0) (fun i => 2 - i.1) (0, cap) ⟨by omega, hcap⟩ 1 rfl (fun _ => rfl) zLes (fun _ => rfl) (fun _ => rfl) zLe ?_
 rintro ⟨i, cap⟩ ⟨hi, hcap⟩
 dsimp only at hi hcap ⊢
 have hi' : i = 0 ∨ i = 1 ∨ i = 2 := by omega
 rcases hi' with rfl | rfl | rfl
 ·(repeat' (first | refine zS ?_ | (refine zT ?_ ?_ <;> intro h <;> first | exact zX | refine zNq ?_)))
  (refine pl_op rfl (op_of (v_index (p := .sl (a.map eRng)) hT rfl rfl rfl rfl (by omega) rfl rfl) ?_); (refine zNp ?_))
  (repeat' (first | refine zS ?_ | (refine zT ?_ ?_ <;> intro h <;> first | exact zX | refine zNq ?_)))
  refine pl_append (b := 8) hT hD rfl rfl rfl rfl rfl rfl rfl rfl (.inr hcap) (hall a) (hone a) (by simp; omega) fun cap' h1 h2 => ?_
  refine zNp ?_
  (repeat' (first | refine zS ?_ | (refine zT ?_ ?_ <;> intro h <;> first | exact zX | refine zNq ?_)))
  refine ⟨(1, cap'), ⟨by show 1 ≤ 2; omega, h2⟩, by show 2 - 1 < 2 - 0; omega, ?_, ?_⟩
  all_goals simp only [if_true, List.length_nil, Nat.zero_add, List.nil_append, Nat.one_ne_zero, if_false]
  ·(exact zLe)
  ·(exact zLes)
 ·rw [if_neg (show ¬ (1 : Nat) = 0 by decide)]
  (repeat' (first | refine zS ?_ | (refine zT ?_ ?_ <;> intro h <;> first | exact zX | refine zNq ?_)))
  (refine pl_op rfl (op_of (v_index (p := .sl []) hT rfl rfl rfl rfl (by omega) rfl rfl) ?_); (refine zNp ?_))
  (repeat' (first | refine zS ?_ | (refine zT ?_ ?_ <;> intro h <;> first | exact zX | refine zNq ?_)))
  refine pl_append (b := 8) hT hD rfl rfl rfl rfl rfl rfl rfl rfl (.inr hcap) rfl rfl (by simp; omega) fun cap' h1 h2 => ?_
  refine zNp ?_
  (repeat' (first | refine zS ?_ | (refine zT ?_ ?_ <;> intro h <;> first | exact zX | refine zNq ?_)))
  refine ⟨(2, cap'), ⟨by show 2 ≤ 2; omega, h2⟩, by show 2 - 2 < 2 - 1; omega, ?_, ?_⟩
  all_goals simp only [List.length_nil, Nat.add_zero, List.append_nil, show ¬ (2 : Nat) = 0 by decide, if_false]
  ·(exact zLe)
  ·(exact zLes)
 ·rw [if_neg (show ¬ (2 : Nat) = 0 by decide)]
  (repeat' (first | refine zS ?_ | (refine zT ?_ ?_ <;> intro h <;> first | exact zX | refine zNq ?_)))
  exact ret0 _ (.sl (a.map eRng)) rfl rfl (.inr (.inr (.inr (.inl ⟨_, _, _, _, _, _, rfl, rfl, rfl, rfl, rfl⟩)))) rfl
theorem c_union (a : List TRng) (hl : a.length < 4294967296) (hin : ∀ r ∈ a, RIn r) (h0 : a.filter (fun r => decide (r.lo ≤ r.hi)) ≠ []) : PFun Tryz.prog Gl 143 [.sl (a.map eRng), .sl []] fun r => r = .sl ((canon a).map eRng) := by
 (refine PFun.of hT Tryz.func143 rfl fun B hD => ?_; refine pw_norm rfl ?_)
 have hne : a ≠ [] := by rintro rfl; exact h0 rfl
 (repeat' (first | refine zS ?_ | (refine zT ?_ ?_ <;> intro h <;> first | exact zX | refine zNq ?_)))
 (refine pl_op rfl (op_fun (c_concat a hne hl) rfl rfl e175 zLe rfl (fun r hr => ?_)); subst hr; refine ⟨rfl, ?_⟩; (refine zNp ?_))
 (refine pl_op rfl (op_fun (c_canonical a hl hin h0) rfl rfl e174 zLe rfl (fun r hr => ?_)); subst hr; refine ⟨rfl, ?_⟩; (refine zNp ?_))
 (repeat' (first | refine zS ?_ | (refine zT ?_ ?_ <;> intro h <;> first | exact zX | refine zNq ?_)))
 exact ret1 _ rfl rfl rfl
theorem Can.le : ∀ {l : List TRng}, Can l → ∀ r ∈ l, r.lo ≤ r.hi
 | [], _, r, h => by cases h
 | s :: l, h, r, hr => by
  cases h with
  | cons _ _ a1 a2 a3 =>
   rcases List.mem_cons.1 hr with rfl | hr
   ·exact a1
   ·exact Can.le a3 r hr
theorem Can.filt {l : List TRng} (h : Can l) : l.filter (fun r => decide (r.lo ≤ r.hi)) = l := List.filter_eq_self.2 fun r hr => decide_eq_true (h.le r hr)
def isx1 (r s : TRng) : List TRng := if max r.lo s.lo ≤ min r.hi s.hi then [⟨max r.lo s.lo, min r.hi s.hi⟩] else []
def isx : List TRng → List TRng → List TRng
 | r :: a, s :: b => isx1 r s ++ if r.hi < s.hi then isx a (s :: b) else isx (r :: a) b
 | _, _ => []
termination_by a b => a.length + b.length
theorem isx_nil_left (b : List TRng) : isx [] b = [] := by unfold isx; rfl
theorem isx_nil_right (a : List TRng) : isx a [] = [] := by unfold isx; cases a <;> rfl
theorem isx_cons (r s : TRng) (a b : List TRng) : isx (r :: a) (s :: b) = isx1 r s ++ if r.hi < s.hi then isx a (s :: b) else isx (r :: a) b := by rw [isx]
theorem isx1_mem {r s x : TRng} (h : x ∈ isx1 r s) : x = ⟨max r.lo s.lo, min r.hi s.hi⟩ ∧ max r.lo s.lo ≤ min r.hi s.hi := by
 unfold isx1 at h
 split at h
 ·rename_i hc; exact ⟨List.mem_singleton.1 h, hc⟩
 ·cases h
theorem isx1_can (r s : TRng) : Can (isx1 r s) := by
 unfold isx1
 split
 ·rename_i hc; exact .one hc
 ·exact .nil
theorem isx1_in (r s : TRng) (v : Int) : mem (isx1 r s) v ↔ (r.lo ≤ v ∧ v ≤ r.hi) ∧ (s.lo ≤ v ∧ v ≤ s.hi) := by
 unfold isx1
 split
 ·rw [mem_cons]; simp only [mem_nil, or_false]; omega
 ·simp only [mem_nil, false_iff]; omega
theorem isx_ok : ∀ (n : Nat) (a b : List TRng), a.length + b.length ≤ n → Can a → Can b → Can (isx a b) ∧ (∀ v, mem (isx a b) v ↔ mem a v ∧ mem b v) ∧ ∀ x ∈ isx a b, (∃ r ∈ a, r.lo ≤ x.lo) ∧ ∃ s ∈ b, s.lo ≤ x.lo := by
 intro n
 induction n with
 | zero =>
  intro a b h _ _
  have : a = [] := List.length_eq_zero_iff.1 (by omega)
  subst this
  rw [isx_nil_left]
  exact ⟨.nil, fun v => by simp [mem_nil], by simp⟩
 | succ n ih =>
  intro a b h ha hb
  match a, b, h, ha, hb with
  | [], b, _, _, _ => rw [isx_nil_left]; exact ⟨.nil, fun v => by simp [mem_nil], by simp⟩
  | r :: a, [], _, _, _ => rw [isx_nil_right]; exact ⟨.nil, fun v => by simp [mem_nil], by simp⟩
  | r :: a, s :: b, h, ha, hb =>
   have ha' := ha
   have hb' := hb
   cases ha with
   | cons _ _ a1 a2 a3 =>
    cases hb with
    | cons _ _ b1 b2 b3 =>
     rw [isx_cons]
     simp only [List.length_cons] at h
     split
     ·rename_i hlt
      obtain ⟨c1, c2, c3⟩ := ih a (s :: b) (by simp only [List.length_cons]; omega) a3 hb'
      refine ⟨Can.append (isx1_can r s) c1 fun x hx y hy => ?_, fun v => ?_, fun x hx => ?_⟩
      ·obtain ⟨rfl, h1⟩ := isx1_mem hx
       obtain ⟨⟨r', hr', h2⟩, _⟩ := c3 y hy
       have := a2 r' hr'
       show min r.hi s.hi + 2 ≤ y.lo
       omega
      ·rw [mem_append, isx1_in, c2, mem_cons, mem_cons]
       constructor
       ·rintro (⟨h1, h2⟩ | ⟨h1, h2⟩)
        ·exact ⟨.inl h1, .inl h2⟩
        ·exact ⟨.inr h1, h2⟩
       ·rintro ⟨h1 | h1, h2⟩
        ·rcases h2 with h2 | ⟨x, hx, h2⟩
         ·exact .inl ⟨h1, h2⟩
         ·have := b2 x hx; omega
        ·exact .inr ⟨h1, h2⟩
      ·rcases List.mem_append.1 hx with hx | hx
       ·obtain ⟨rfl, h1⟩ := isx1_mem hx
        exact ⟨⟨r, by simp, by show r.lo ≤ max r.lo s.lo; omega⟩, ⟨s, by simp, by show s.lo ≤ max r.lo s.lo; omega⟩⟩
       ·obtain ⟨⟨r', hr', h2⟩, h3⟩ := c3 x hx
        exact ⟨⟨r', List.mem_cons_of_mem _ hr', h2⟩, h3⟩
     ·rename_i hlt
      obtain ⟨c1, c2, c3⟩ := ih (r :: a) b (by simp only [List.length_cons]; omega) ha' b3
      refine ⟨Can.append (isx1_can r s) c1 fun x hx y hy => ?_, fun v => ?_, fun x hx => ?_⟩
      ·obtain ⟨rfl, h1⟩ := isx1_mem hx
       obtain ⟨_, ⟨s', hs', h2⟩⟩ := c3 y hy
       have := b2 s' hs'
       show min r.hi s.hi + 2 ≤ y.lo
       omega
      ·rw [mem_append, isx1_in, c2, mem_cons, mem_cons]
       constructor
       ·rintro (⟨h1, h2⟩ | ⟨h1, h2⟩)
        ·exact ⟨.inl h1, .inl h2⟩
        ·exact ⟨h1, .inr h2⟩
       ·rintro ⟨h1, h2 | h2⟩
        ·rcases h1 with h1 | ⟨x, hx, h1⟩
         ·exact .inl ⟨h1, h2⟩
         ·have := a2 x hx; omega
        ·exact .inr ⟨h1, h2⟩
      ·rcases List.mem_append.1 hx with hx | hx
       ·obtain ⟨rfl, h1⟩ := isx1_mem hx
        exact ⟨⟨r, by simp, by show r.lo ≤ max r.lo s.lo; omega⟩, ⟨s, by simp, by show s.lo ≤ max r.lo s.lo; omega⟩⟩
       ·obtain ⟨h3, ⟨s', hs', h2⟩⟩ := c3 x hx
        exact ⟨h3, ⟨s', List.mem_cons_of_mem _ hs', h2⟩⟩
theorem isx_eq {a b : List TRng} (ha : Can a) (hb : Can b) : isx a b = isect a b := by
 obtain ⟨h1, h2, _⟩ := isx_ok _ a b (Nat.le_refl _) ha hb
 exact isect_uniq h1 h2
theorem isx_drop {a b : List TRng} {i j : Nat} (hi : i < a.length) (hj : j < b.length) : isx (a.drop i) (b.drop j) = isx1 a[i] b[j] ++ if a[i].hi < b[j].hi then isx (a.drop (i + 1)) (b.drop j) else isx (a.drop i) (b.drop (j + 1)) := by
 rw [List.drop_eq_getElem_cons hi, List.drop_eq_getElem_cons hj, isx_cons]
def chk (top : Int) (l : List TRng) (i : Nat) : Prop := (l.getD i default).lo ≤ (l.getD i default).hi ∧ (l.getD i default).hi ≤ top ∧ (0 < i → (l.getD (i - 1) default).hi + 2 ≤ (l.getD i default).lo)
instance (top : Int) (l : List TRng) (i : Nat) : Decidable (chk top l i) := by unfold chk; infer_instance
def ivalid (l : List TRng) (top : Int) : Bool := decide (∀ i, i < l.length → chk top l i)
theorem can_ivalid {l : List TRng} {top : Int} (h : ivalid l top = true) : Can l ∧ ∀ r ∈ l, r.hi ≤ top := by
 replace h := of_decide_eq_true h
 induction l with
 | nil => exact ⟨.nil, by simp⟩
 | cons r l ih =>
  have h0 := h 0 (by simp)
  have hs : ∀ i, i < l.length → chk top l i := by
   intro i hi
   obtain ⟨c1, c2, c3⟩ := h (i + 1) (by simp; omega)
   refine ⟨c1, c2, fun hp => ?_⟩
   obtain ⟨j, rfl⟩ : ∃ j, i = j + 1 := ⟨i - 1, by omega⟩
   have := c3 (by omega)
   rw [Nat.add_sub_cancel] at this ⊢
   exact this
  obtain ⟨i1, i2⟩ := ih hs
  refine ⟨?_, fun x hx => ?_⟩
  ·match l, h, i1 with
   | [], _, _ => exact .one h0.1
   | s :: l, h, i1 =>
    have h1 := (h 1 (by simp)).2.2 (by omega)
    change r.hi + 2 ≤ s.lo at h1
    refine .cons r _ h0.1 (fun x hx => ?_) i1
    cases i1 with
    | cons _ _ a1 a2 a3 =>
     rcases List.mem_cons.1 hx with rfl | hx
     ·exact h1
     ·have := a2 x hx; omega
  ·rcases List.mem_cons.1 hx with rfl | hx
   ·exact h0.2.1
   ·exact i2 x hx

end
end Go.Proofs.YtkaobkjcjodffaaGreatDoor