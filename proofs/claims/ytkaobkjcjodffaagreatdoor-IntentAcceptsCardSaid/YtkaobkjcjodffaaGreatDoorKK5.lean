/-
 The common part of two canonical lists, computed with two pointers; a test whether a list is canonical.
-/
import Derived.Test.YtkaobkjcjodffaaGreatDoorKW5
import Derived.Test.YtkaobkjcjodffaaGreatDoorJPwAuto
import Derived.Test.YtkaobkjcjodffaaGreatDoorJPwGlob
set_option maxHeartbeats 20000000
set_option maxRecDepth 100000
namespace Go.Proofs.YtkaobkjcjodffaaGreatDoor
open Go Go.Pw
section
variable {Gl : Glob}
attribute [local irreducible] PW PWL OpP PCalls PWO
def RIn (r : TRng) : Prop := (0 ≤ r.lo ∧ r.lo < 4294967296) ∧ 0 ≤ r.hi ∧ r.hi < 4294967296
theorem mstep_in {out : List TRng} {r : TRng} (h : ∀ x ∈ out, RIn x) (hr : RIn r) : ∀ x ∈ mstep out r, RIn x := by
 rcases List.eq_nil_or_concat out with rfl | ⟨a, q, rfl⟩
 ·rw [mstep_nil]; intro x hx; rw [List.mem_singleton] at hx; subst hx; exact hr
 ·rw [List.concat_eq_append] at *
  rw [mstep_snoc]
  have hq := h q (by simp)
  split
  ·intro x hx
   rcases List.mem_append.1 hx with hx | hx
   ·exact h x (by simp [hx])
   ·rw [List.mem_singleton] at hx; subst hx
    unfold RIn at *
    dsimp only
    omega
  ·intro x hx
   rcases List.mem_append.1 hx with hx | hx
   ·exact h x hx
   ·rw [List.mem_singleton] at hx; subst hx; exact hr
theorem mstep_len (out : List TRng) (r : TRng) : (mstep out r).length ≤ out.length + 1 := by
 rcases List.eq_nil_or_concat out with rfl | ⟨a, q, rfl⟩
 ·simp [mstep_nil]
 ·rw [List.concat_eq_append, mstep_snoc]
  split <;> simp
theorem filt_snoc {l : List TRng} {i : Nat} (h : i < l.length) : (l.take (i + 1)).filter (fun r => decide (r.lo ≤ r.hi)) = (l.take i).filter (fun r => decide (r.lo ≤ r.hi)) ++ (if l[i].lo ≤ l[i].hi then [l[i]] else []) := by
 rw [List.take_succ_eq_append_getElem h, List.filter_append]
 congr 1
 by_cases hc : l[i].lo ≤ l[i].hi <;> simp [hc]
theorem c_canonical (l : List TRng) (hl : l.length < 4294967296) (hin : ∀ r ∈ l, RIn r) (hne : l.filter (fun r => decide (r.lo ≤ r.hi)) ≠ []) : PFun Tryz.prog Gl 174 [.sl (l.map eRng)] fun r => r = .sl ((canon l).map eRng) := by
 (refine PFun.of hT Tryz.func174 rfl fun B hD => ?_; refine pw_norm rfl ?_)
 (repeat' (first | refine zS ?_ | refine zq5 ?_ | refine zq6 ?_ | (refine zT ?_ ?_ <;> intro h <;> first | exact zX | refine zNq ?_)))
 refine pw_ghost 2 ?_
 refine pw_ghost 2 ?_
 refine zNq ?_
 refine pw_for hD (fun a : Nat × Nat => [(3, .msl 2 0 0 (((l.take a.1).filter fun r => decide (r.lo ≤ r.hi)).map eRng).length a.2), (12, .int .i64 a.1)]) (fun a => [.arr 2 (((l.take a.1).filter fun r => decide (r.lo ≤ r.hi)).map eRng) a.2, .arr 2 [] 0]) (fun a => a.1 ≤ l.length) (fun a => l.length - a.1) (0, 0) (Nat.zero_le _) 2 rfl (fun _ => rfl) (by (exact zLes)) (fun _ => rfl) (fun _ => rfl) (by (exact zLe)) ?_
 rintro ⟨i, cap⟩ hi
 dsimp only at hi ⊢
 (repeat' (first | refine zS ?_ | refine zq5 ?_ | refine zq6 ?_ | (refine zT ?_ ?_ <;> intro h <;> first | exact zX | refine zNq ?_)))
 ·have hlt : i < l.length := by omega
  have hg : l.getD i default = l[i] := by rw [List.getD, List.getElem?_eq_getElem hlt]; rfl
  have hfl := List.length_filter_le (fun r : TRng => decide (r.lo ≤ r.hi)) (l.take i)
  have htl : (l.take i).length ≤ i := List.length_take_le ..
  (refine pl_append (b := 8) hT hD rfl rfl rfl rfl rfl rfl rfl rfl (.inl (Nat.zero_lt_succ _)) rfl rfl (by simp; omega) (fun cap' _ hcap => ?_); (refine zNp ?_))
  (repeat' (first | refine zS ?_ | refine zq5 ?_ | refine zq6 ?_ | (refine zT ?_ ?_ <;> intro h <;> first | exact zX | refine zNq ?_)))
  refine ⟨(i + 1, cap'), hlt, by show _ - (i + 1) < _ - i; omega, ?_, ?_⟩
  all_goals
   rw [hg] at h ⊢
   simp only [filt_snoc hlt, if_pos h, List.map_append, List.length_append, List.map_cons, List.map_nil]
  ·(exact zLe)
  ·(exact zLes)
 ·have hlt : i < l.length := by omega
  have hg : l.getD i default = l[i] := by rw [List.getD, List.getElem?_eq_getElem hlt]; rfl
  refine ⟨(i + 1, cap), hlt, by show _ - (i + 1) < _ - i; omega, ?_, ?_⟩
  all_goals
   rw [hg] at h
   simp only [filt_snoc hlt, if_neg h, List.append_nil]
  ·(exact zLe)
  ·(exact zLes)
 have hie : i = l.length := by omega
 subst hie
 rw [List.take_length]
 clear h hi
 have hfl := List.length_filter_le (fun r : TRng => decide (r.lo ≤ r.hi)) l
 have hpf := canon_ok l
 have hcan : ∀ d : List TRng, d.Perm (l.filter fun r => decide (r.lo ≤ r.hi)) → (d.Pairwise fun a b => a.lo ≤ b.lo) → mergeAll d = canon l := fun d h1 h2 => merge_canon h1 h2
 have hfin : ∀ r ∈ l.filter (fun r => decide (r.lo ≤ r.hi)), RIn r := fun r hr => hin r (List.mem_filter.1 hr).1
 generalize l.filter (fun r => decide (r.lo ≤ r.hi)) = f at hne hfl hcan hfin ⊢
 have hfp : 0 < f.length := List.length_pos_iff.2 hne
 refine pl_room 0 rfl fun hroom => ?_
 have hcap : cap ≠ 0 := by simp at hroom; omega
 refine pl_op rfl (op_sort rfl rfl rfl rfl hcap (by omega) fun d hdp hds => ?_)
 refine zNp ?_
 rw [← hdp.length_eq] at hfp
 have hdin : ∀ r ∈ d, RIn r := fun r hr => hfin r (hdp.mem_iff.1 hr)
 have hfin2 := hcan d hdp hds
 have hdl := hdp.length_eq
 refine pl_nil ?_
 rw [List.length_map, ← hdl]
 refine pw_seq ?_
 refine pw_frz1 0 3 rfl rfl (List.length_map ..).symm ?_
 refine zNq ?_
 (repeat' (first | refine zS ?_ | refine zq5 ?_ | refine zq6 ?_ | (refine zT ?_ ?_ <;> intro h <;> first | exact zX | refine zNq ?_)))
 clear hpf hcan hne hroom hcap hdp hfin hin
 refine pw_for hD (fun a : Nat × Nat => [(4, .msl 2 1 0 ((mergeAll (d.take a.1)).map eRng).length a.2), (30, .int .i64 a.1)]) (fun a => [.dead, .arr 2 ((mergeAll (d.take a.1)).map eRng) a.2])
  (fun a => a.1 ≤ d.length ∧ (∀ x ∈ mergeAll (d.take a.1), RIn x) ∧ (mergeAll (d.take a.1)).length ≤ a.1) (fun a => d.length - a.1) (0, 0) ⟨Nat.zero_le _, by intro x hx; simp [mergeAll] at hx, by simp [mergeAll]⟩ 2 rfl (fun _ => rfl) (by (exact zLes)) (fun _ => rfl) (fun _ => rfl) (by (exact zLe)) ?_
 rintro ⟨i, cap'⟩ ⟨hi, ho, hol⟩
 dsimp only at hi ho hol ⊢
 have hnext : ∀ h : i < d.length, mergeAll (d.take (i + 1)) = mstep (mergeAll (d.take i)) d[i] := fun h => by
  rw [List.take_succ_eq_append_getElem h, mergeAll, List.foldl_append]; rfl
 by_cases hlt : i < d.length
 ·have hg : d.getD i default = d[i] := by rw [List.getD, List.getElem?_eq_getElem hlt]; rfl
  have hn := hnext hlt
  have hri := hdin d[i] (List.getElem_mem hlt)
  rw [← hg] at hn hri
  have hst : ∀ x ∈ mstep (mergeAll (d.take i)) (d.getD i default), RIn x := mstep_in ho hri
  have hsl := mstep_len (mergeAll (d.take i)) (d.getD i default)
  rw [← hn] at hst hsl
  refine pw_room 1 rfl fun hroom => ?_
  rw [List.length_map] at hroom
  generalize mergeAll (d.take i) = out at ho hol hn hsl hroom ⊢
  unfold RIn at hri
  rcases List.eq_nil_or_concat out with rfl | ⟨a, q, rfl⟩
  ·have hnl : ([] : List TRng).length = 0 := rfl
   (repeat' (first | (refine zDr [[0,1,2,3,4,5,6,7,8,9,10,11,12,13,14,15]] ?_; refine zDn ?_) | (refine zDr [[0,1,2,3,4,5,6,7,8,9,10,11,12,13],[14]] ?_; refine zDn ?_) | refine zS ?_ | refine zD ?_ | refine po_both ?_ ?_ | refine pwt_both ?_ ?_ | refine pwt_fork ?_ | refine pwt_lin ?_ | (refine po_test rfl rfl rfl rfl zB ?_ ?_ <;> intro hb <;> first | exact zX | refine zDn ?_) | refine zq5 ?_ | refine zq6 ?_ | (refine zT ?_ ?_ <;> intro h <;> first | exact zX | refine zNq ?_)))
   (refine pl_append (b := 8) hT hD rfl rfl rfl rfl rfl rfl rfl rfl (.inl (Nat.zero_lt_succ _)) rfl rfl (by simp) (fun cap2 _ hcap => ?_); (refine zNp ?_))
   (repeat' (first | refine zS ?_ | refine zq5 ?_ | refine zq6 ?_ | (refine zT ?_ ?_ <;> intro h <;> first | exact zX | refine zNq ?_)))
   rw [mstep_nil] at hn
   refine ⟨(i + 1, cap2), ⟨hlt, hst, by show (mergeAll (d.take (i + 1))).length ≤ i + 1; omega⟩, by show _ - (i + 1) < _ - i; omega, ?_, ?_⟩
   all_goals simp only [hn]
   ·(exact zLe)
   ·(exact zLes)
  ·rw [List.concat_eq_append] at *
   have hq := ho q (by simp)
   have hll : (a ++ [q]).length = a.length + 1 := by simp
   unfold RIn at hq
   have hc0 : cap' ≠ 0 := by omega
   have hix : ((a ++ [q]).map eRng)[0 + (((a ++ [q]).length : Int) - 1).toNat]? = some (eRng q) := by rw [show 0 + (((a ++ [q]).length : Int) - 1).toNat = a.length by omega]; simp
   (repeat' (first | (refine zDr [[0,1,2,3,4,5,6,7,8,9,10,11,12,13,14,15]] ?_; refine zDn ?_) | (refine zDr [[0,1,2,3,4,5,6,7,8,9,10,11,12,13],[14]] ?_; refine zDn ?_) | refine zS ?_ | refine zD ?_ | refine po_both ?_ ?_ | refine pwt_both ?_ ?_ | refine pwt_fork ?_ | refine pwt_lin ?_ | (refine po_test rfl rfl rfl rfl zB ?_ ?_ <;> intro hb <;> first | exact zX | refine zDn ?_) | refine zq5 ?_ | refine zq6 ?_ | (refine zT ?_ ?_ <;> intro h <;> first | exact zX | refine zNq ?_)))
   (refine po_gval rfl rfl rfl (v_indexm hT rfl rfl rfl rfl rfl (by omega) (by simp; omega) hc0) ?_; refine zDn ?_)
   refine zD ?_
   (refine po_gloadE (x0 := eRng q) rfl rfl rfl hT rfl rfl rfl rfl rfl (hc0) (hix) rfl ?_; (first | refine po_norm rfl ?_ | refine po_normE rfl ?_))
   (repeat' (first | (refine zDr [[0,1,2,3,4,5,6,7,8,9,10,11,12,13,14,15]] ?_; refine zDn ?_) | (refine zDr [[0,1,2,3,4,5,6,7,8,9,10,11,12,13],[14]] ?_; refine zDn ?_) | refine zS ?_ | refine zD ?_ | refine po_both ?_ ?_ | refine pwt_both ?_ ?_ | refine pwt_fork ?_ | refine pwt_lin ?_ | (refine po_test rfl rfl rfl rfl zB ?_ ?_ <;> intro hb <;> first | exact zX | refine zDn ?_) | refine zq5 ?_ | refine zq6 ?_ | (refine zT ?_ ?_ <;> intro h <;> first | exact zX | refine zNq ?_)))
   ·(refine po_val rfl rfl (v_indexm hT rfl rfl rfl rfl rfl (by omega) (by simp; omega) hc0) ?_; refine zDn ?_)
    refine zD ?_
    (refine po_loadE (x0 := eRng q) rfl rfl hT rfl rfl rfl rfl rfl (hc0) (hix) rfl ?_; refine zDn ?_)
    refine zD ?_
    (refine po_val rfl rfl (v_max rfl rfl rfl) ?_; refine zDn ?_)
    (refine po_val rfl rfl (v_indexm hT rfl rfl rfl rfl rfl (by omega) (by simp; omega) hc0) ?_; refine zDn ?_)
    refine zD ?_
    (refine po_step rfl rfl (op_storeE' (x0 := eRng q) (x1 := eRng ⟨q.lo, max q.hi (d.getD i default).hi⟩) (xs' := (a ++ [(⟨q.lo, max q.hi (d.getD i default).hi⟩ : TRng)]).map eRng) hT rfl rfl rfl rfl rfl (hc0) (hix) rfl rfl rfl rfl (Nat.le_of_ble_eq_true rfl) rfl (by rw [show 0 + (((a ++ [q]).length : Int) - 1).toNat = a.length by omega]; simp) ⟨zLok, ?_⟩); refine zDn ?_)
    refine zD ?_
    (repeat' (first | refine zS ?_ | refine zq5 ?_ | refine zq6 ?_ | (refine zT ?_ ?_ <;> intro h <;> first | exact zX | refine zNq ?_)))
    rw [mstep_snoc, if_pos h] at hn
    refine ⟨(i + 1, cap'), ⟨hlt, hst, by show (mergeAll (d.take (i + 1))).length ≤ i + 1; omega⟩, by show _ - (i + 1) < _ - i; omega, ?_, ?_⟩
    all_goals simp only [hn, List.map_append, List.length_append, List.map_cons, List.map_nil]
    ·(exact zLe)
    ·(exact zLes)
   ·rw [mstep_snoc, if_neg h] at hn
    (refine pl_append (b := 8) hT hD rfl rfl rfl rfl rfl rfl rfl rfl (.inl (Nat.zero_lt_succ _)) rfl rfl (by simp; omega) (fun cap2 _ hcap => ?_); (refine zNp ?_))
    (repeat' (first | refine zS ?_ | refine zq5 ?_ | refine zq6 ?_ | (refine zT ?_ ?_ <;> intro h <;> first | exact zX | refine zNq ?_)))
    refine ⟨(i + 1, cap2), ⟨hlt, hst, by show (mergeAll (d.take (i + 1))).length ≤ i + 1; omega⟩, by show _ - (i + 1) < _ - i; omega, ?_, ?_⟩
    all_goals simp only [hn, List.map_append, List.length_append, List.map_cons, List.map_nil]
    ·(exact zLe)
    ·(exact zLes)
 have hie : i = d.length := by omega
 subst hie
 rw [List.take_length, hfin2]
 (repeat' (first | refine zS ?_ | refine zq5 ?_ | refine zq6 ?_ | (refine zT ?_ ?_ <;> intro h <;> first | exact zX | refine zNq ?_)))
 exact ret0 _ (.sl ((canon l).map eRng)) rfl rfl (.inr (.inr (.inr (.inl ⟨_, _, _, _, _, _, rfl, rfl, rfl, rfl, rfl⟩)))) rfl
theorem PFun.le {P : Program} {f : FuncId} {args args' : List PV} {R : PV → Prop} (h : PFun P Gl f args' R) (hl : Le args args') : PFun P Gl f args R := by
 unfold PFun PCalls at *
 exact fun A w β vals hi ha => h A w β vals hi (EnvRel.weaken ha hl)
theorem c_grow (n : Nat) (h0 : 0 < n) (h1 : n < 4294967296) : PCalls Tryz.prog Gl 207 [.nilsl, .int .i64 n] [] fun r s => ∃ cap, cap ≠ 0 ∧ r = .msl 2 0 0 0 cap ∧ s = [.arr 2 [] cap] := by
 unfold PCalls
 intro A w β vals hi ha
 obtain ⟨hl, har⟩ := ha
 match vals, hl with
 | [v0, v1], _ =>
 have d0 := har 0 _ _ rfl rfl
 have d1 := har 1 _ _ rfl rfl
 obtain rfl := d1.int_inv
 cases d0
 obtain ⟨e, tie, zv, hty, hb⟩ := appOk_spec (T := 74) (T2 := 74) (s := 2) (b := 8) hT rfl
 obtain rfl : e = 85 := by
  have h1 := hty.u
  have h2 := Tryz.underlying74
  rw [h2] at h1
  cases h1; rfl
 have hbl : β = [] := List.length_eq_zero_iff.1 hi.len
 subst hbl
 have hcon := Any8.slices_Grow_grow Tryz.laysGrow tie zv hty.i hty.z (by rw [hty.sz]; decide) none 0 0 n [] w (Nat.le_refl _) (by omega) (by rw [hty.by']; omega) (by omega) (by simp) (fun _ => rfl) (fun a h => by cases h)
 refine Calls.mono hcon ?_
 rintro e w' ⟨rfl, rfl⟩
 have hge := grownCap_ge w (0 + n) 0 (Tryz.laysGrow_ren.t 25)
 have hle := grownCap_le_maxLen w (0 + n) 0 (Tryz.laysGrow_ren.t 25) (by unfold maxLen; omega)
 generalize grownCap w (0 + n) 0 (Tryz.laysGrow_ren.t 25) = G at hge hle ⊢
 have hx : ObjRel A ([] ++ [w.drew.heap.size]) (w.drew.alloc (.cells (([] : List Value).toArray ++ Builtin.zeroCells zv.cells (0 + n - 0) ++ Builtin.zeroCells zv.cells (G - (0 + n))) (Tryz.laysGrow_ren.t 25))) w.drew.heap.size (.arr 2 [] G) := by
  refine ⟨Nat.zero_le _, hle, by simp, fun _ => ⟨(([] : List Value).toArray ++ Builtin.zeroCells zv.cells (0 + n - 0) ++ Builtin.zeroCells zv.cells (G - (0 + n))).toList, Tryz.laysGrow_ren.t 25, ((0 : Nat), (0 : Nat)), ?_, ?_, fun j _ h => absurd h.2 (Nat.not_lt_zero _), by simp⟩⟩
  ·rw [Array.toArray_toList]
   show (w.drew.heap.push _)[w.drew.heap.size]? = _
   rw [Array.getElem?_push_size]
  ·have e1 := zeroCells_len zv (0 + n - 0)
   have e2 := zeroCells_len zv (G - (0 + n))
   rw [hty.zs] at e1 e2
   simp only [Array.toList_append, List.length_append, e1, e2]
   simp
   omega
 have hi2 := Inv.snoc (hi.drew) _ _ hx
 refine ⟨.msl 2 0 0 0 G, _, _, A, _, rfl, ⟨G, by omega, rfl, rfl⟩, ?_, hi2⟩
 exact .msl _ 2 0 0 0 G _ rfl
theorem c_concat (a : List TRng) (h0 : a ≠ []) (hl : a.length < 4294967296) : PFun Tryz.prog Gl 175 [.sl [.sl (a.map eRng), .sl []]] fun r => r = .sl (a.map eRng) := by
 (refine PFun.of hT Tryz.func175 rfl fun B hD => ?_; refine pw_norm rfl ?_)
 have hpos : 0 < a.length := List.length_pos_iff.2 h0
 have hall : ∀ l : List TRng, (l.map eRng).all (fun y => y.cells.length == 2) = true := fun l => by simp only [List.all_map]; exact List.all_eq_true.2 fun _ _ => rfl
 have hone : ∀ l : List TRng, (l.map eRng).all (fun y => y.cells.all PV.one) = true := fun l => by simp only [List.all_map]; exact List.all_eq_true.2 fun _ _ => rfl
 (repeat' (first | refine zS ?_ | (refine zT ?_ ?_ <;> intro h <;> first | exact zX | refine zNq ?_)))
 refine pw_for hD (fun i : Nat => [(11, .int .i64 i), (3, .int .i64 (if i = 0 then 0 else (a.length : Int)))]) (fun _ => []) (fun i => i ≤ 2) (fun i => 2 - i) 0 (by omega) 0 rfl (fun _ => rfl) (by (exact zLes)) (fun _ => rfl) (fun _ => rfl) (by (exact zLe)) ?_
 intro i hi
 have hi' : i = 0 ∨ i = 1 ∨ i = 2 := by omega
 rcases hi' with rfl | rfl | rfl
 ·(repeat' (first | refine zS ?_ | (refine zT ?_ ?_ <;> intro h <;> first | exact zX | refine zNq ?_)))
  (refine pl_op rfl (op_of (v_index (p := .sl (a.map eRng)) hT rfl rfl rfl rfl (by omega) rfl rfl) ?_); (refine zNp ?_))
  (repeat' (first | refine zS ?_ | (refine zT ?_ ?_ <;> intro h <;> first | exact zX | refine zNq ?_)))
  exact ⟨1, by omega, by omega, by simp only [if_true, Int.zero_add]; (exact zLe), by (exact zLes)⟩
 ·rw [if_neg (show ¬ (1 : Nat) = 0 by decide)]
  (repeat' (first | refine zS ?_ | (refine zT ?_ ?_ <;> intro h <;> first | exact zX | refine zNq ?_)))
  (refine pl_op rfl (op_of (v_index (p := .sl []) hT rfl rfl rfl rfl (by omega) rfl rfl) ?_); (refine zNp ?_))
  have hz : ([] : List PV).length = 0 := rfl
  (repeat' (first | refine zS ?_ | (refine zT ?_ ?_ <;> intro h <;> first | exact zX | refine zNq ?_)))
  exact ⟨2, by omega, by omega, by simp only [hz, Int.add_zero, show ¬ (2 : Nat) = 0 by decide, if_false, Int.natCast_zero]; (exact zLe), by (exact zLes)⟩
 rw [if_neg (show ¬ (2 : Nat) = 0 by decide)]
 (repeat' (first | refine zS ?_ | (refine zT ?_ ?_ <;> intro h <;> first | exact zX | refine zNq ?_)))
 (refine pl_op rfl (op_call [] rfl rfl e207 (by decide) rfl rfl rfl zLe zLes (c_grow a.length hpos hl) (fun r s hq => ?_)); obtain ⟨cap, hcap, rfl, rfl⟩ := hq; refine ⟨rfl, rfl, ?_⟩; (refine zNp ?_))
 (repeat' (first | refine zS ?_ | (refine zT ?_ ?_ <;> intro h <;> first | exact zX | refine zNq ?_)))
 refine pw_for hD (fun i : Nat × Nat => [(27, .int .i64 i.1), (24, .any), (6, .msl 2 0 0 (if i.1 = 0 then [] else a.map eRng).length i.2)]) (fun i => [.arr 2 (if i.1 = 0 then [] else a.map eRng) i.2]) (fun i => i.1 ≤ 2 ∧ i.2 ≠ 0) (fun i => 2 - i.1) (0, cap) ⟨by omega, hcap⟩ 1 rfl (fun _ => rfl) (by (exact zLes)) (fun _ => rfl) (fun _ => rfl) (by (exact zLe)) ?_
 rintro ⟨i, cap⟩ ⟨hi, hcap⟩
 dsimp only at hi hcap ⊢
 have hi' : i = 0 ∨ i = 1 ∨ i = 2 := by omega
 rcases hi' with rfl | rfl | rfl
 ·(repeat' (first | refine zS ?_ | (refine zT ?_ ?_ <;> intro h <;> first | exact zX | refine zNq ?_)))
  (refine pl_op rfl (op_of (v_index (p := .sl (a.map eRng)) hT rfl rfl rfl rfl (by omega) rfl rfl) ?_); (refine zNp ?_))
  (repeat' (first | refine zS ?_ | (refine zT ?_ ?_ <;> intro h <;> first | exact zX | refine zNq ?_)))
  refine pl_append (b := 8) hT hD rfl rfl rfl rfl rfl rfl rfl rfl (.inr hcap) (hall a) (hone a) (by simp; omega) fun cap' h1 h2 => ?_
  refine zNp ?_
  (repeat' (first | refine zS ?_ | (refine zT ?_ ?_ <;> intro h <;> first | exact zX | refine zNq ?_)))
  refine ⟨(1, cap'), ⟨by show 1 ≤ 2; omega, h2⟩, by show 2 - 1 < 2 - 0; omega, ?_, ?_⟩
  all_goals simp only [if_true, List.length_nil, Nat.zero_add, List.nil_append, Nat.one_ne_zero, if_false]
  ·(exact zLe)
  ·(exact zLes)
 ·rw [if_neg (show ¬ (1 : Nat) = 0 by decide)]
  (repeat' (first | refine zS ?_ | (refine zT ?_ ?_ <;> intro h <;> first | exact zX | refine zNq ?_)))
  (refine pl_op rfl (op_of (v_index (p := .sl []) hT rfl rfl rfl rfl (by omega) rfl rfl) ?_); (refine zNp ?_))
  (repeat' (first | refine zS ?_ | (refine zT ?_ ?_ <;> intro h <;> first | exact zX | refine zNq ?_)))
  refine pl_append (b := 8) hT hD rfl rfl rfl rfl rfl rfl rfl rfl (.inr hcap) rfl rfl (by simp; omega) fun cap' h1 h2 => ?_
  refine zNp ?_
  (repeat' (first | refine zS ?_ | (refine zT ?_ ?_ <;> intro h <;> first | exact zX | refine zNq ?_)))
  refine ⟨(2, cap'), ⟨by show 2 ≤ 2; omega, h2⟩, by show 2 - 2 < 2 - 1; omega, ?_, ?_⟩
  all_goals simp only [List.length_nil, Nat.add_zero, List.append_nil, show ¬ (2 : Nat) = 0 by decide, if_false]
  ·(exact zLe)
  ·(exact zLes)
 ·rw [if_neg (show ¬ (2 : Nat) = 0 by decide)]
  (repeat' (first | refine zS ?_ | (refine zT ?_ ?_ <;> intro h <;> first | exact zX | refine zNq ?_)))
  exact ret0 _ (.sl (a.map eRng)) rfl rfl (.inr (.inr (.inr (.inl ⟨_, _, _, _, _, _, rfl, rfl, rfl, rfl, rfl⟩)))) rfl
theorem c_union (a : List TRng) (hl : a.length < 4294967296) (hin : ∀ r ∈ a, RIn r) (h0 : a.filter (fun r => decide (r.lo ≤ r.hi)) ≠ []) : PFun Tryz.prog Gl 143 [.sl (a.map eRng), .sl []] fun r => r = .sl ((canon a).map eRng) := by
 (refine PFun.of hT Tryz.func143 rfl fun B hD => ?_; refine pw_norm rfl ?_)
 have hne : a ≠ [] := by rintro rfl; exact h0 rfl
 (repeat' (first | refine zS ?_ | (refine zT ?_ ?_ <;> intro h <;> first | exact zX | refine zNq ?_)))
 (refine pl_op rfl (op_fun (c_concat a hne hl) rfl rfl e175 zLe rfl (fun r hr => ?_)); subst hr; refine ⟨rfl, ?_⟩; (refine zNp ?_))
 (refine pl_op rfl (op_fun (c_canonical a hl hin h0) rfl rfl e174 zLe rfl (fun r hr => ?_)); subst hr; refine ⟨rfl, ?_⟩; (refine zNp ?_))
 (repeat' (first | refine zS ?_ | (refine zT ?_ ?_ <;> intro h <;> first | exact zX | refine zNq ?_)))
 exact ret1 _ rfl rfl rfl
theorem Can.le : ∀ {l : List TRng}, Can l → ∀ r ∈ l, r.lo ≤ r.hi
 | [], _, r, h => by cases h
 | s :: l, h, r, hr => by
  cases h with
  | cons _ _ a1 a2 a3 =>
   rcases List.mem_cons.1 hr with rfl | hr
   ·exact a1
   ·exact Can.le a3 r hr
theorem Can.filt {l : List TRng} (h : Can l) : l.filter (fun r => decide (r.lo ≤ r.hi)) = l := List.filter_eq_self.2 fun r hr => decide_eq_true (h.le r hr)
def isx1 (r s : TRng) : List TRng := if max r.lo s.lo ≤ min r.hi s.hi then [⟨max r.lo s.lo, min r.hi s.hi⟩] else []
def isx : List TRng → List TRng → List TRng
 | r :: a, s :: b => isx1 r s ++ if r.hi < s.hi then isx a (s :: b) else isx (r :: a) b
 | _, _ => []
termination_by a b => a.length + b.length
theorem isx_nil_left (b : List TRng) : isx [] b = [] := by unfold isx; rfl
theorem isx_nil_right (a : List TRng) : isx a [] = [] := by unfold isx; cases a <;> rfl
theorem isx_cons (r s : TRng) (a b : List TRng) : isx (r :: a) (s :: b) = isx1 r s ++ if r.hi < s.hi then isx a (s :: b) else isx (r :: a) b := by rw [isx]
theorem isx1_mem {r s x : TRng} (h : x ∈ isx1 r s) : x = ⟨max r.lo s.lo, min r.hi s.hi⟩ ∧ max r.lo s.lo ≤ min r.hi s.hi := by
 unfold isx1 at h
 split at h
 ·rename_i hc; exact ⟨List.mem_singleton.1 h, hc⟩
 ·cases h
theorem isx1_can (r s : TRng) : Can (isx1 r s) := by
 unfold isx1
 split
 ·rename_i hc; exact .one hc
 ·exact .nil
theorem isx1_in (r s : TRng) (v : Int) : mem (isx1 r s) v ↔ (r.lo ≤ v ∧ v ≤ r.hi) ∧ (s.lo ≤ v ∧ v ≤ s.hi) := by
 unfold isx1
 split
 ·rw [mem_cons]; simp only [mem_nil, or_false]; omega
 ·simp only [mem_nil, false_iff]; omega
theorem isx_ok : ∀ (n : Nat) (a b : List TRng), a.length + b.length ≤ n → Can a → Can b → Can (isx a b) ∧ (∀ v, mem (isx a b) v ↔ mem a v ∧ mem b v) ∧ ∀ x ∈ isx a b, (∃ r ∈ a, r.lo ≤ x.lo) ∧ ∃ s ∈ b, s.lo ≤ x.lo := by
 intro n
 induction n with
 | zero =>
  intro a b h _ _
  have : a = [] := List.length_eq_zero_iff.1 (by omega)
  subst this
  rw [isx_nil_left]
  exact ⟨.nil, fun v => by simp [mem_nil], by simp⟩
 | succ n ih =>
  intro a b h ha hb
  match a, b, h, ha, hb with
  | [], b, _, _, _ => rw [isx_nil_left]; exact ⟨.nil, fun v => by simp [mem_nil], by simp⟩
  | r :: a, [], _, _, _ => rw [isx_nil_right]; exact ⟨.nil, fun v => by simp [mem_nil], by simp⟩
  | r :: a, s :: b, h, ha, hb =>
   have ha' := ha
   have hb' := hb
   cases ha with
   | cons _ _ a1 a2 a3 =>
    cases hb with
    | cons _ _ b1 b2 b3 =>
     rw [isx_cons]
     simp only [List.length_cons] at h
     split
     ·rename_i hlt
      obtain ⟨c1, c2, c3⟩ := ih a (s :: b) (by simp only [List.length_cons]; omega) a3 hb'
      refine ⟨Can.append (isx1_can r s) c1 fun x hx y hy => ?_, fun v => ?_, fun x hx => ?_⟩
      ·obtain ⟨rfl, h1⟩ := isx1_mem hx
       obtain ⟨⟨r', hr', h2⟩, _⟩ := c3 y hy
       have := a2 r' hr'
       show min r.hi s.hi + 2 ≤ y.lo
       omega
      ·rw [mem_append, isx1_in, c2, mem_cons, mem_cons]
       constructor
       ·rintro (⟨h1, h2⟩ | ⟨h1, h2⟩)
        ·exact ⟨.inl h1, .inl h2⟩
        ·exact ⟨.inr h1, h2⟩
       ·rintro ⟨h1 | h1, h2⟩
        ·rcases h2 with h2 | ⟨x, hx, h2⟩
         ·exact .inl ⟨h1, h2⟩
         ·have := b2 x hx; omega
        ·exact .inr ⟨h1, h2⟩
      ·rcases List.mem_append.1 hx with hx | hx
       ·obtain ⟨rfl, h1⟩ := isx1_mem hx
        exact ⟨⟨r, by simp, by show r.lo ≤ max r.lo s.lo; omega⟩, ⟨s, by simp, by show s.lo ≤ max r.lo s.lo; omega⟩⟩
       ·obtain ⟨⟨r', hr', h2⟩, h3⟩ := c3 x hx
        exact ⟨⟨r', List.mem_cons_of_mem _ hr', h2⟩, h3⟩
     ·rename_i hlt
      obtain ⟨c1, c2, c3⟩ := ih (r :: a) b (by simp only [List.length_cons]; omega) ha' b3
      refine ⟨Can.append (isx1_can r s) c1 fun x hx y hy => ?_, fun v => ?_, fun x hx => ?_⟩
      ·obtain ⟨rfl, h1⟩ := isx1_mem hx
       obtain ⟨_, ⟨s', hs', h2⟩⟩ := c3 y hy
       have := b2 s' hs'
       show min r.hi s.hi + 2 ≤ y.lo
       omega
      ·rw [mem_append, isx1_in, c2, mem_cons, mem_cons]
       constructor
       ·rintro (⟨h1, h2⟩ | ⟨h1, h2⟩)
        ·exact ⟨.inl h1, .inl h2⟩
        ·exact ⟨h1, .inr h2⟩
       ·rintro ⟨h1, h2 | h2⟩
        ·rcases h1 with h1 | ⟨x, hx, h1⟩
         ·exact .inl ⟨h1, h2⟩
         ·have := a2 x hx; omega
        ·exact .inr ⟨h1, h2⟩
      ·rcases List.mem_append.1 hx with hx | hx
       ·obtain ⟨rfl, h1⟩ := isx1_mem hx
        exact ⟨⟨r, by simp, by show r.lo ≤ max r.lo s.lo; omega⟩, ⟨s, by simp, by show s.lo ≤ max r.lo s.lo; omega⟩⟩
       ·obtain ⟨h3, ⟨s', hs', h2⟩⟩ := c3 x hx
        exact ⟨h3, ⟨s', List.mem_cons_of_mem _ hs', h2⟩⟩
theorem isx_eq {a b : List TRng} (ha : Can a) (hb : Can b) : isx a b = isect a b := by
 obtain ⟨h1, h2, _⟩ := isx_ok _ a b (Nat.le_refl _) ha hb
 exact isect_uniq h1 h2
theorem isx_drop {a b : List TRng} {i j : Nat} (hi : i < a.length) (hj : j < b.length) : isx (a.drop i) (b.drop j) = isx1 a[i] b[j] ++ if a[i].hi < b[j].hi then isx (a.drop (i + 1)) (b.drop j) else isx (a.drop i) (b.drop (j + 1)) := by
 rw [List.drop_eq_getElem_cons hi, List.drop_eq_getElem_cons hj, isx_cons]
def chk (top : Int) (l : List TRng) (i : Nat) : Prop := (l.getD i default).lo ≤ (l.getD i default).hi ∧ (l.getD i default).hi ≤ top ∧ (0 < i → (l.getD (i - 1) default).hi + 2 ≤ (l.getD i default).lo)
instance (top : Int) (l : List TRng) (i : Nat) : Decidable (chk top l i) := by unfold chk; infer_instance
def ivalid (l : List TRng) (top : Int) : Bool := decide (∀ i, i < l.length → chk top l i)
theorem ivalid_can {l : List TRng} {top : Int} (h : Can l) (ht : ∀ r ∈ l, r.hi ≤ top) : ivalid l top = true := by
 refine decide_eq_true ?_
 induction h with
 | nil => intro i h; cases h
 | cons r l h1 h2 h3 ih =>
  intro i hi
  match i with
  | 0 => exact ⟨h1, ht r (by simp), fun h => by cases h⟩
  | 1 =>
   have hl : 0 < l.length := by simp only [List.length_cons] at hi; omega
   obtain ⟨c1, c2, _⟩ := ih (fun x hx => ht x (by simp [hx])) 0 hl
   refine ⟨c1, c2, fun _ => ?_⟩
   have e : l.getD 0 default = l[0] := by rw [List.getD, List.getElem?_eq_getElem hl]; rfl
   show r.hi + 2 ≤ (l.getD 0 default).lo
   rw [e]
   exact h2 _ (List.getElem_mem hl)
  | i + 2 =>
   obtain ⟨c1, c2, c3⟩ := ih (fun x hx => ht x (by simp [hx])) (i + 1) (by simp only [List.length_cons] at hi; omega)
   refine ⟨c1, c2, fun _ => ?_⟩
   exact c3 (Nat.succ_pos i)
theorem can_ivalid {l : List TRng} {top : Int} (h : ivalid l top = true) : Can l ∧ ∀ r ∈ l, r.hi ≤ top := by
 replace h := of_decide_eq_true h
 induction l with
 | nil => exact ⟨.nil, by simp⟩
 | cons r l ih =>
  have h0 := h 0 (by simp)
  have hs : ∀ i, i < l.length → chk top l i := by
   intro i hi
   obtain ⟨c1, c2, c3⟩ := h (i + 1) (by simp; omega)
   refine ⟨c1, c2, fun hp => ?_⟩
   obtain ⟨j, rfl⟩ : ∃ j, i = j + 1 := ⟨i - 1, by omega⟩
   have := c3 (by omega)
   rw [Nat.add_sub_cancel] at this ⊢
   exact this
  obtain ⟨i1, i2⟩ := ih hs
  refine ⟨?_, fun x hx => ?_⟩
  ·match l, h, i1 with
   | [], _, _ => exact .one h0.1
   | s :: l, h, i1 =>
    have h1 := (h 1 (by simp)).2.2 (by omega)
    change r.hi + 2 ≤ s.lo at h1
    refine .cons r _ h0.1 (fun x hx => ?_) i1
    cases i1 with
    | cons _ _ a1 a2 a3 =>
     rcases List.mem_cons.1 hx with rfl | hx
     ·exact h1
     ·have := a2 x hx; omega
  ·rcases List.mem_cons.1 hx with rfl | hx
   ·exact h0.2.1
   ·exact i2 x hx

end
end Go.Proofs.YtkaobkjcjodffaaGreatDoor