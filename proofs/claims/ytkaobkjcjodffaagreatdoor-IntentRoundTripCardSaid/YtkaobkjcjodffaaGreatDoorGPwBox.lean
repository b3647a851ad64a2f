/-
 An array whose elements refer to other arrays of the function's own: kept as a box, and back.
-/
import Derived.Test.YtkaobkjcjodffaaGreatDoorGPwAuto
import Derived.Test.YtkaobkjcjodffaaGreatDoorGPwGlob
namespace Go.Pw
open Go
section
variable {P : Program} {Gl : Glob} {B : Base} {tys : List TI} {env : List PV} {st : List PObj} {ops : Array Oper} {rest : List Oper} {o : Oper} {Q : Post}
 {A : Nat → Prop} {w : World} {β : List Nat}
theorem v_indexB {t : TypeId} {x y : Operand} {j n cap : Nat} {k : IntKind} {i : Int} (m : Nat) (hT : Tys P tys) (ho : o.op = .indexAddr t x y) {e b z1 z2 : Nat} {z3 : Option (List PV)} (ht : tys[t]? = some ⟨.sl e 1 b, z1, z2, z3⟩)
  (hx : pe env x = .msl 1 j 0 n cap) (hy : pe env y = .int k i) (hm : i.toNat = m) (h0 : 0 ≤ i) (h1 : m < n) (hcap : cap ≠ 0) : OpV P Gl B o env (.ptr j m) := fun _ A w β tmps _ he => by
 obtain ⟨ti, d, hi1, hu, htk, _⟩ := tyOf_spec (hT _ _ ht)
 obtain ⟨rfl, hse⟩ := tkOf_sl' htk
 have hd := he.eval [] x
 rw [hx] at hd
 obtain ⟨bb, hb, hv⟩ := hd.msl_inv hcap
 subst hm
 refine ⟨.pointer (some ⟨bb, i.toNat, none⟩), ?_, .ptr _ _ _ _ hb⟩
 simp only [execOp, ho, int_of he hy, hv, Instr.indexAt, asIntOf, Sem.run_bind, Sem.run_pure, Result.andThen_ok, run_underlying hu]
 have hc : 0 ≤ i ∧ i < ((n : Nat) : Int) := ⟨h0, by omega⟩
 simp only [Sem.run_pure, Result.andThen_ok, if_pos hc, Sem.run_bind, run_size hse, addr_add, Nat.mul_one, Nat.zero_add]
theorem PObj.dead_live {o : PObj} (h : o.live = false) {i j : Nat} (hl : liveAt (st.set i o) j) : i ≠ j ∧ liveAt st j := by
 obtain ⟨x, hx, hxl⟩ := hl
 rw [List.getElem?_set] at hx
 split at hx
 ·split at hx
  ·cases hx; rw [h] at hxl; cases hxl
  ·cases hx
 ·exact ⟨by assumption, x, hx, hxl⟩
theorem Inv.revive {i : Nat} (k : Nat) (hi : Inv Gl B A w β st) (_hst : st[i]? = some .dead) : Inv Gl B A w β (st.set i (.arr k [] 0)) := by
 have hl : ∀ j, liveAt (st.set i (.arr k [] 0)) j → liveAt st j := fun j h => (PObj.dead_live (o := .arr k [] 0) rfl h).2
 refine { hi with len := by rw [List.length_set]; exact hi.len, inj := fun a b c h1 h2 h3 h4 => hi.inj a b c h1 h2 (hl _ h3) (hl _ h4), obj := fun a b o h1 h2 => ?_, notA := fun a b h1 h2 => hi.notA a b h1 (hl _ h2), own := fun a b h1 h2 => hi.own a b h1 (hl _ h2) }
 rw [List.getElem?_set] at h2
 split at h2
 ·split at h2
  ·cases h2
   exact ⟨Nat.le_refl _, by decide, by simp, fun h => (h rfl).elim⟩
  ·cases h2
 ·exact hi.obj a b o h1 h2
theorem Inv.fill {i cap : Nat} {xs : List PV} (hi : Inv Gl B A w β st) (hst : st[i]? = some (.arr 1 xs cap)) (hpos : cap ≠ 0) : Inv Gl B A w β (st.set i (.arr 1 (xs ++ List.replicate (cap - xs.length) .any) cap)) := by
 have hil : i < st.length := (List.getElem?_eq_some_iff.1 hst).1
 have hlen := hi.len
 have hb : β[i]? = some (β[i]'(by omega)) := List.getElem?_eq_getElem (by omega)
 have hlive : PObj.live (.arr 1 xs cap) = true := by cases cap with | zero => exact (hpos rfl).elim | succ c => rfl
 obtain ⟨q1, q2, q3, q4⟩ := hi.obj i _ _ hb hst
 obtain ⟨vs, T, fr, g1, g2, g3, g4⟩ := q4 hpos
 refine (hi.write (x := .arr 1 (xs ++ List.replicate (cap - xs.length) .any) cap) hb hst hlive rfl rfl rfl rfl (fun _ _ => rfl) ⟨by simp; omega, q2, fun x hx => ?_, fun _ => ⟨vs, T, fr, g1, g2, g3, fun n x j c hx hc => ?_⟩⟩).1
 ·rcases List.mem_append.1 hx with hx | hx
  ·exact q3 x hx
  ·rw [(List.mem_replicate.1 hx).2]; rfl
 ·rcases Nat.lt_or_ge n xs.length with hn | hn
  ·rw [List.getElem?_append_left hn] at hx
   exact g4 n x j c hx hc
  ·rw [List.getElem?_append_right hn] at hx
   have hx1 := (List.mem_replicate.1 (List.mem_of_getElem? hx)).2
   have hx2 := (List.getElem?_eq_some_iff.1 hx).1
   rw [List.length_replicate] at hx2
   subst hx1
   have hj : j = 0 := by
    have := (List.getElem?_eq_some_iff.1 hc).1
    simp [PV.cells] at this
    exact this
   subst hj
   have hca : c = .any := by simpa [PV.cells] using hc.symm
   subst hca
   refine ⟨vs[n * 1 + 0]'(by omega), List.getElem?_eq_getElem _, .any ..⟩
theorem pl_inv {st' : List PObj} (hv : ∀ A w β, Inv Gl B A w β st → Inv Gl B A w β st') (h : PWL P Gl B ops rest env st' Q) : PWL P Gl B ops rest env st Q := fun A w β tmps hi he => h A w β tmps (hv A w β hi) he
theorem pw_inv {c : Code} {st' : List PObj} (hv : ∀ A w β, Inv Gl B A w β st → Inv Gl B A w β st') (h : PW P Gl B c env st' Q) : PW P Gl B c env st Q := fun A w β tmps hi he => h A w β tmps (hv A w β hi) he
theorem LeBy.app {R : PV → PV → Prop} : ∀ {xs ys xs' ys' : List PV}, LeBy R xs ys → LeBy R xs' ys' → LeBy R (xs ++ xs') (ys ++ ys')
 | [], [], _, _, _, h => h
 | _ :: _, _ :: _, _, _, h, h' => ⟨h.1, h.2.app h'⟩
theorem FSt.put {F : Nat → Bool} : ∀ {i t : Nat} {xs ys : List PObj} {x y : PObj}, FSt F st i xs ys → xs[t]? = some x → F (i + t) = false → FOb F st x y → FSt F st i xs (ys.set t y)
 | i, 0, x :: xs, y :: ys, _, z, h, hx, hF, hr => by
  cases hx
  refine ⟨?_, h.2⟩
  rw [Nat.add_zero] at hF
  rw [hF]; exact hr
 | i, t + 1, x :: xs, y :: ys, _, z, h, hx, hF, hr => ⟨h.1, FSt.put (i := i + 1) (t := t) h.2 (by simpa using hx) (by rw [← hF]; congr 1; omega) hr⟩
 | _, _, [], [], _, _, _, hx, _, _ => by simp at hx
 | _, _, [], _ :: _, _, _, h, _, _, _ => h.elim
 | _, _, _ :: _, [], _, _, h, _, _, _ => h.elim
theorem frzB_core (i b : Nat) {k m cap k' : Nat} {xs cs1 cs2 : List PV} {tmps : List Value} (hb : st[b]? = some (.box (cs1 ++ .msl k i 0 m cap :: cs2))) (hst : st[i]? = some (.arr k' xs cap)) (hm : m = xs.length) (hib : b ≠ i) (hi : Inv Gl B A w β st) (he : EnvRel A w β env tmps) :
  ∃ A', Inv Gl B A' w β ((killF (fun j => j == i) 0 st).set b (.box (cs1 ++ .sl xs :: cs2))) ∧ EnvRel A' w β (env.map (wipe fun j => !(j == i))) tmps := by
 obtain ⟨A', hE, hden, hi'⟩ := hi.freeze fun j => j == i
 have hw := FLe.wipeF (fun j => j == i) st env
 refine ⟨A', hi' _ (FSt.put (killF_spec _ st st 0) hb (by simpa using hib) (.inr (.inr ⟨_, _, rfl, rfl, LeBy.app (LeBy.refl (fun _ => .inr (.inl rfl)) cs1) ⟨.inr (.inr (.inr (.inl ⟨k, i, m, cap, k', xs, rfl, by simp, hst, hm, rfl⟩))), LeBy.refl (fun _ => .inr (.inl rfl)) cs2⟩⟩))), hw.len.symm.trans he.1, fun n p v hp hv => ?_⟩
 obtain ⟨q, hq, hr⟩ := hw.get n p hp
 exact hden 3 q p v hr (he.2 n q v hq hv)
theorem pl_frzB (i b : Nat) {k m cap k' : Nat} {xs cs1 cs2 : List PV} (hb : st[b]? = some (.box (cs1 ++ .msl k i 0 m cap :: cs2))) (hst : st[i]? = some (.arr k' xs cap)) (hm : m = xs.length) (hib : b ≠ i)
  (h : PWL P Gl B ops rest (env.map (wipe fun j => !(j == i))) ((killF (fun j => j == i) 0 st).set b (.box (cs1 ++ .sl xs :: cs2))) Q) : PWL P Gl B ops rest env st Q := fun _ w β tmps hi he => by
 obtain ⟨A', h1, h2⟩ := frzB_core i b hb hst hm hib hi he
 exact h A' w β tmps h1 h2
theorem pw_frzB (i b : Nat) {c : Code} {k m cap k' : Nat} {xs cs1 cs2 : List PV} (hb : st[b]? = some (.box (cs1 ++ .msl k i 0 m cap :: cs2))) (hst : st[i]? = some (.arr k' xs cap)) (hm : m = xs.length) (hib : b ≠ i)
  (h : PW P Gl B c (env.map (wipe fun j => !(j == i))) ((killF (fun j => j == i) 0 st).set b (.box (cs1 ++ .sl xs :: cs2))) Q) : PW P Gl B c env st Q := fun _ w β tmps hi he => by
 obtain ⟨A', h1, h2⟩ := frzB_core i b hb hst hm hib hi he
 exact h A' w β tmps h1 h2
theorem pw_frz2 (i t t' : Nat) {c : Code} {k m cap k' : Nat} {xs : List PV} (ht : env[t]? = some (.msl k i 0 m cap)) (ht' : env[t']? = some (.msl k i 0 m cap)) (hst : st[i]? = some (.arr k' xs cap)) (hm : m = xs.length)
  (h : PW P Gl B c (((env.map (wipe fun j => !(j == i))).set t (.sl xs)).set t' (.sl xs)) (killF (fun j => j == i) 0 st) Q) : PW P Gl B c env st Q :=
 pw_freeze (fun j => j == i) (killF_spec _ st st 0) (LeBy.put (LeBy.put (FLe.wipeF _ st env) ht (.inr (.inr (.inr (.inl ⟨k, i, m, cap, k', xs, rfl, by simp, hst, hm, rfl⟩))))) ht' (.inr (.inr (.inr (.inl ⟨k, i, m, cap, k', xs, rfl, by simp, hst, hm, rfl⟩))))) h
theorem pl_boxArr (i : Nat) {cs : List PV} (hst : st[i]? = some (.box cs)) (hcell : ∀ c ∈ cs, c.cells = [c]) (hg : cs.all (PV.refs (fun _ => false) 5) = true) (hm : cs.length ≤ maxLen) (h : PWL P Gl B ops rest env (st.set i (.arr 1 cs cs.length)) Q) : PWL P Gl B ops rest env st Q :=
 fun A w β tmps hi he => h A w β tmps (hi.boxArr hst hcell hg hm) he
theorem pl_shrink (i n : Nat) {k cap : Nat} {xs : List PV} (hst : st[i]? = some (.arr k xs cap)) (h : PWL P Gl B ops rest env (st.set i (.arr k (xs.take n) cap)) Q) : PWL P Gl B ops rest env st Q :=
 fun A w β tmps hi he => h A w β tmps (hi.shrink hst n) he
theorem pl_st {st' : List PObj} (h : st = st') (hr : PWL P Gl B ops rest env st' Q) : PWL P Gl B ops rest env st Q := by rw [h]; exact hr
theorem pw_st {c : Code} {st' : List PObj} (h : st = st') (hr : PW P Gl B c env st' Q) : PW P Gl B c env st Q := by rw [h]; exact hr
theorem pl_normV {env' : List PV} (h : (forceV env fun e => (e, ())) = (env', ())) (hr : PWL P Gl B ops rest env' st Q) : PWL P Gl B ops rest env st Q := by
 rw [forceV_eq] at h
 cases h
 exact hr
theorem pw_normV {c : Code} {env' : List PV} (h : (forceV env fun e => (e, ())) = (env', ())) (hr : PW P Gl B c env' st Q) : PW P Gl B c env st Q := by
 rw [forceV_eq] at h
 cases h
 exact hr
theorem zSm0 {G X : Prop} (k : X) (h : Kp X → G := by (intro zk; ((first | (refine gG0 rfl ?_; (first | (refine gK kPure rfl ?_; refine pl_pure hT rfl ?_) | (refine gK kBin rfl ?_; (first | refine pl_pure hT rfl ?_ | (refine pl_op rfl (op_of (v_arith rfl rfl rfl rfl zWR) ?_); (refine zNp ?_)) | (refine pl_op rfl (op_of (v_concat rfl rfl rfl zOML) ?_); (refine zNp ?_)) | (refine pl_op rfl (op_of (v_quoP rfl rfl rfl zOM zOM zWR) ?_); (refine zNp ?_)) | (refine pl_op rfl (op_of (v_remP rfl rfl rfl zOM zOM) ?_); (refine zNp ?_)) | (refine pl_op rfl (op_of (v_eqS hT rfl rfl rfl (by kernel_rfl) rfl) ?_); (refine zNp ?_)) | (refine pl_op rfl (op_of (v_neS hT rfl rfl rfl (by kernel_rfl) rfl) ?_); (refine zNp ?_)))) | (refine gK kAddr rfl ?_; (first | (refine pl_op rfl (op_of (v_byte _ hT rfl rfl rfl rfl zTN zOM zOM) ?_); (refine zNp ?_)) | (refine pl_op rfl (op_of (v_nthS _ hT rfl rfl rfl rfl zTN zOM zOM rfl) ?_); (refine zNp ?_)) | (refine pl_op rfl (op_of (v_nth _ hT rfl rfl rfl rfl zTN zOM zOM (fun _ => rfl)) ?_); (refine zNp ?_)))) | (refine gK kLen rfl ?_; (first | (refine pl_op rfl (op_of (v_lenM hT rfl (fun _ => rfl)) ?_); (refine zNp ?_)) | refine pl_pure hT rfl ?_)) | (refine gK kCall rfl ?_; (first | (refine pl_op rfl (op_conG rfl rfl rfl (by exact inferInstance) zPRE (by rfl) (by rfl) ?_); (refine zNp ?_)) | (refine pl_op rfl (op_conF rfl rfl rfl rfl zLND (by exact inferInstance) zPRE (by rfl) (by rfl) ?_); (refine zNp ?_)))) | (refine gK kConv rfl ?_; (refine pl_op rfl (op_of (v_conv hT rfl rfl rfl rfl zWR) ?_); (refine zNp ?_))) | (refine gK kSlice rfl ?_; (first | (refine pl_op rfl (op_of (v_takeS _ hT rfl rfl rfl rfl zTN zOM zOM) ?_); (refine zNp ?_)) | (refine pl_op rfl (op_of (v_dropS _ hT rfl rfl rfl rfl zTN zOM zOM) ?_); (refine zNp ?_)) | (refine pl_op rfl (op_of (v_takeR _ hT rfl rfl rfl rfl zTN zOM zOM (fun _ => rfl)) ?_); (refine zNp ?_)) | (refine pl_op rfl (op_of (v_dropR _ hT rfl rfl rfl rfl zTN zOM zOM (fun _ => rfl)) ?_); (refine zNp ?_)) | (refine pl_op rfl (op_of (v_substr hT rfl rfl rfl rfl rfl zOM zOM zOM) ?_); (refine zNp ?_)))) | (refine gK kBox rfl ?_; (first | (refine pl_op rfl (op_boxF rfl rfl rfl ?_); (refine zNp ?_)) | (refine pl_op rfl (op_alloc hT rfl rfl ?_); (refine zNp ?_)))) | (refine gK kStore rfl ?_; (refine pl_op rfl (op_storeF hT rfl rfl rfl rfl rfl rfl rfl rfl (Nat.le_of_ble_eq_true rfl) ?_); (refine zNp ?_))))) | (refine gG1 rfl ?_; (first | refine pl_goff rfl ?_ | (refine gK kPure rfl ?_; refine pl_gpure hT rfl ?_) | (refine gK kBin rfl ?_; (first | refine pl_gpure hT rfl ?_ | (refine pl_on rfl rfl (op_of (v_arith rfl rfl rfl rfl zWR) ?_); (refine zNp ?_)) | (refine pl_on rfl rfl (op_of (v_concat rfl rfl rfl zOML) ?_); (refine zNp ?_)) | (refine pl_on rfl rfl (op_of (v_quoP rfl rfl rfl zOM zOM zWR) ?_); (refine zNp ?_)) | (refine pl_on rfl rfl (op_of (v_remP rfl rfl rfl zOM zOM) ?_); (refine zNp ?_)) | (refine pl_on rfl rfl (op_of (v_eqS hT rfl rfl rfl (by kernel_rfl) rfl) ?_); (refine zNp ?_)) | (refine pl_on rfl rfl (op_of (v_neS hT rfl rfl rfl (by kernel_rfl) rfl) ?_); (refine zNp ?_)))) | (refine gK kAddr rfl ?_; (first | (refine pl_on rfl rfl (op_of (v_byte _ hT rfl rfl rfl rfl zTN zOM zOM) ?_); (refine zNp ?_)) | (refine pl_on rfl rfl (op_of (v_nthS _ hT rfl rfl rfl rfl zTN zOM zOM rfl) ?_); (refine zNp ?_)) | (refine pl_on rfl rfl (op_of (v_nth _ hT rfl rfl rfl rfl zTN zOM zOM (fun _ => rfl)) ?_); (refine zNp ?_)))) | (refine gK kLen rfl ?_; (first | (refine pl_on rfl rfl (op_of (v_lenM hT rfl (fun _ => rfl)) ?_); (refine zNp ?_)) | refine pl_gpure hT rfl ?_)) | (refine gK kCall rfl ?_; (first | (refine pl_on rfl rfl (op_conG rfl rfl rfl (by exact inferInstance) zPRE (by rfl) (by rfl) ?_); (refine zNp ?_)) | (refine pl_on rfl rfl (op_conF rfl rfl rfl rfl zLND (by exact inferInstance) zPRE (by rfl) (by rfl) ?_); (refine zNp ?_)))) | (refine gK kConv rfl ?_; (refine pl_on rfl rfl (op_of (v_conv hT rfl rfl rfl rfl zWR) ?_); (refine zNp ?_))) | (refine gK kSlice rfl ?_; (first | (refine pl_on rfl rfl (op_of (v_takeS _ hT rfl rfl rfl rfl zTN zOM zOM) ?_); (refine zNp ?_)) | (refine pl_on rfl rfl (op_of (v_dropS _ hT rfl rfl rfl rfl zTN zOM zOM) ?_); (refine zNp ?_)) | (refine pl_on rfl rfl (op_of (v_takeR _ hT rfl rfl rfl rfl zTN zOM zOM (fun _ => rfl)) ?_); (refine zNp ?_)) | (refine pl_on rfl rfl (op_of (v_dropR _ hT rfl rfl rfl rfl zTN zOM zOM (fun _ => rfl)) ?_); (refine zNp ?_)) | (refine pl_on rfl rfl (op_of (v_substr hT rfl rfl rfl rfl rfl zOM zOM zOM) ?_); (refine zNp ?_)))) | (refine gK kBox rfl ?_; (first | (refine pl_on rfl rfl (op_boxF rfl rfl rfl ?_); (refine zNp ?_)) | (refine pl_on rfl rfl (op_alloc hT rfl rfl ?_); (refine zNp ?_)))) | (refine gK kStore rfl ?_; (refine pl_on rfl rfl (op_storeF hT rfl rfl rfl rfl rfl rfl rfl rfl (Nat.le_of_ble_eq_true rfl) ?_); (refine zNp ?_))))) | refine pl_nil ?_ | refine pw_seq ?_ | refine pw_region ?_ | refine pw_block ?_ | refine pw_skip ?_ | refine pw_condT rfl ?_ | refine pw_condF rfl ?_ | refine pw_exit ?_ | refine pw_ret ?_)); exact Kp.out zk)) : G := h ⟨k⟩
theorem zSm {G X : Prop} (k : X) (h : Kp X → G := by (intro zk; (refine zSm0 ?_; (repeat refine zSm0 ?_)); exact Kp.out zk)) : G := h ⟨k⟩
theorem pl_cap (i : Nat) {k cap : Nat} {xs : List PV} (hst : st[i]? = some (.arr k xs cap)) (h : xs.length ≤ cap → cap ≤ maxLen → PWL P Gl B ops rest env st Q) : PWL P Gl B ops rest env st Q := fun A w β tmps hi he => by
 have hil : i < st.length := (List.getElem?_eq_some_iff.1 hst).1
 have hlen := hi.len
 obtain ⟨q1, q2, _⟩ := hi.obj i (β[i]'(by omega)) _ (List.getElem?_eq_getElem (by omega)) hst
 exact h q1 q2 A w β tmps hi he
theorem pl_freezeF (F : Nat → Bool) {env' : List PV} {st' : List PObj} (hs : FSt F st 0 st st') (he' : LeBy (FLe F st 3) env env') (h : PWL P Gl B ops rest env' st' Q) : PWL P Gl B ops rest env st Q := fun A w β tmps hi he => by
 obtain ⟨A', hE, hden, hi'⟩ := hi.freeze F
 refine h A' w β tmps (hi' st' hs) ⟨he'.len.symm.trans he.1, fun i p v hp hv => ?_⟩
 obtain ⟨q, hq, hr⟩ := he'.get i p hp
 exact hden 3 q p v hr (he.2 i q v hq hv)
theorem pl_frz1 (i t : Nat) {k m cap k' : Nat} {xs : List PV} (ht : env[t]? = some (.msl k i 0 m cap)) (hst : st[i]? = some (.arr k' xs cap)) (hm : m = xs.length)
  (h : PWL P Gl B ops rest ((env.map (wipe fun j => !(j == i))).set t (.sl xs)) (killF (fun j => j == i) 0 st) Q) : PWL P Gl B ops rest env st Q :=
 pl_freezeF (fun j => j == i) (killF_spec _ st st 0) (LeBy.put (FLe.wipeF _ st env) ht (.inr (.inr (.inr (.inl ⟨k, i, m, cap, k', xs, rfl, by simp, hst, hm, rfl⟩))))) h
theorem cells_rep (n : Nat) : ∀ c ∈ List.replicate n PV.any, c.cells = [c] := fun c hc => by rw [(List.mem_replicate.1 hc).2]; rfl
theorem refs_rep (d : Nat → Bool) (n k : Nat) : (List.replicate n PV.any).all (PV.refs d (k + 1)) = true := List.all_eq_true.2 fun c hc => by rw [(List.mem_replicate.1 hc).2]; rfl
end
end Go.Pw
