/-
 Words of windows: what the program and the reference read out of them is the same.
-/
import Derived.Test.YtkaobkjcjodffaaGreatDoorTK18
import Derived.Test.YtkaobkjcjodffaaGreatDoorTG2
import Derived.Test.YtkaobkjcjodffaaGreatDoorTB8
set_option maxHeartbeats 20000000
set_option maxRecDepth 100000
namespace Go.Proofs.YtkaobkjcjodffaaGreatDoor
open Go Go.Pw
section
variable {Gl : Glob}
attribute [local irreducible] PW PWL OpP PCalls PWO PWT bothT
theorem rng_at {l : List TRng} (hin : ∀ r ∈ l, RIn r) (k : Nat) : RIn (l.getD k default) := by
 rw [List.getD]
 cases e : l[k]? with
 | none => exact ⟨by decide, by decide⟩
 | some x => exact hin x (List.mem_of_getElem? e)
theorem c_starts (l : List TRng) (top : Int) (hl : l.length < 1000000) (ht : 0 ≤ top ∧ top < 4294967296) (hin : ∀ r ∈ l, RIn r) : PFun Tryz.prog Gl 157 [.sl (l.map eRng), .int .u32 top] fun r => r = .sl ((starts l top).map eU64) := by
 (refine PFun.of hT Tryz.func157 rfl fun B hD => ?_; refine pw_norm rfl ?_)
 (repeat' (first | refine zS ?_ | (refine zT ?_ ?_ <;> intro h <;> first | exact zX | refine zNq ?_)))
 refine pw_for hD (fun i : Nat => [(5, .sl (((l.take i).foldl (stepS top) [0]).map eU64)), (6, .int .i64 i)]) (fun _ => []) (fun i => i ≤ l.length) (fun i => l.length - i) 0 (Nat.zero_le _) 0 rfl (fun _ => rfl) zLes (fun _ => rfl) (fun _ => rfl) zLe ?_
 intro i hi
 have hr := rng_at hin i
 unfold RIn at hr
 have hfl := starts_len_go top (l.take i) [0]
 have htl : (l.take i).length ≤ i := List.length_take_le ..
 have hn : i < l.length → (l.take (i + 1)).foldl (stepS top) [0] = stepS top ((l.take i).foldl (stepS top) [0]) (l.getD i default) := fun h => by
  rw [List.take_succ_eq_append_getElem h, List.foldl_append, List.getD, List.getElem?_eq_getElem h]; rfl
 have hz : ([0] : List Int).length = 1 := rfl
 generalize hs : (l.take i).foldl (stepS top) [0] = s at hfl hn ⊢
 have hil := ins_len s (l.getD i default).lo top
 (repeat' (first | (refine zDr [[0,1,2,3,4,5,6,7,8,9,10]] ?_; refine zDn ?_) | (refine zDr [[0,1,2,3,4,5,6,7,9,10,11,12,13,14,15,16],[8,17],[18]] ?_; refine zDn ?_) | refine zS ?_ | refine zD ?_ | refine po_both ?_ ?_ | refine pwt_both ?_ ?_ | refine pwt_fork ?_ | refine pwt_lin ?_ | (refine po_test rfl rfl rfl rfl zB ?_ ?_ <;> intro hb <;> first | exact zX | refine zDn ?_) | (refine zT ?_ ?_ <;> intro h <;> first | exact zX | refine zNq ?_)))
 ·refine ⟨i + 1, by omega, by omega, ?_, zLes⟩
  rw [hn (by omega)]
  unfold stepS
  rw [if_pos h]
  (exact zLe)
 ·refine ⟨i + 1, by omega, by omega, ?_, zLes⟩
  rw [hn (by omega)]
  unfold stepS
  rw [if_neg h]
  (exact zLe)
 ·have hie : i = l.length := by omega
  subst hie
  rw [List.take_length] at hs
  subst hs
  exact ret2 _ rfl rfl rfl
instance (l : List TRng) (top : Int) : ConF Tryz.prog Gl 157 [.sl (l.map eRng), .int .u32 top] (l.length < 1000000 ∧ (0 ≤ top ∧ top < 4294967296) ∧ ∀ r ∈ l, RIn r) (.sl ((starts l top).map eU64)) := ⟨e157, fun h => c_starts l top h.1 h.2.1 h.2.2⟩
theorem kst_in {φ : Int → Bool} {s : List Int} {top : Int} {l : List TRng} (h : StOk s top l) (ht : top < 4294967296) : ∀ i, i ≤ s.length → ∀ r ∈ kst φ s top i, RIn r
 | 0, _, r, hr => by simp [kst] at hr
 | i + 1, hi, r, hr => by
  have ih := kst_in h ht i (by omega) (φ := φ)
  have hx := h.rng _ (getD_mem' (show i < s.length by omega))
  have he := segEnd_ge h (show i < s.length by omega)
  unfold kst at hr
  split at hr
  ·unfold putSeg at hr
   split at hr
   ·rename_i h1
    rcases List.mem_append.1 hr with hr | hr
    ·exact ih r (List.mem_of_mem_take hr)
    ·rw [List.mem_singleton] at hr; subst hr
     have := rng_at ih ((kst φ s top i).length - 1)
     unfold RIn at this ⊢
     dsimp only
     omega
   ·rcases List.mem_append.1 hr with hr | hr
    ·exact ih r hr
    ·rw [List.mem_singleton] at hr; subst hr
     unfold RIn
     dsimp only
     omega
  ·exact ih r hr
theorem kst_len (φ : Int → Bool) (s : List Int) (top : Int) : ∀ i, (kst φ s top i).length ≤ i
 | 0 => Nat.le_refl _
 | i + 1 => by
  have := kst_len φ s top i
  unfold kst
  split
  ·unfold putSeg
   split
   ·simp; omega
   ·simp; omega
  ·omega
theorem c_keepI (a b : List TRng) (top : Int) (hla : a.length < 100000) (hlb : b.length < 100000) (ht : 0 ≤ top ∧ top < 4294967296) (ha : ∀ r ∈ a, RIn r) (hb : ∀ r ∈ b, RIn r) : PFun Tryz.prog Gl 126 [.sl (a.map eRng), .sl (b.map eRng), .int .i64 1, .int .u32 top] fun r => r = .sl ((keepL 1 a b top).map eRng) := by
 (refine PFun.of hT Tryz.func126 rfl fun B hD => ?_; refine pw_norm rfl ?_)
 have hab : ∀ r ∈ a ++ b, RIn r := fun r hr => by
  rcases List.mem_append.1 hr with hr | hr
  ·exact ha r hr
  ·exact hb r hr
 have hll : (a ++ b).length = a.length + b.length := List.length_append
 unfold keepL
 have hst := starts_ok ht.1 hab
 have hsl := starts_len (a ++ b) top
 (repeat' (first | refine zSm ?_ | refine zq5 ?_ | refine zq6 ?_ | (refine zT ?_ ?_ <;> intro h <;> first | exact zX | refine zNq ?_)))
 (refine pl_op rfl (op_litm hT rfl rfl rfl rfl rfl (by decide) rfl rfl rfl rfl ?_); (refine zNp ?_))
 (repeat' (first | refine zSm ?_ | refine zq5 ?_ | refine zq6 ?_ | (refine zT ?_ ?_ <;> intro h <;> first | exact zX | refine zNq ?_)))
 (refine pl_appendN (b := 8) hT hD rfl rfl rfl rfl rfl rfl rfl rfl ?_ ?_ (by simp; omega) (fun c1 hcap => ?_); (focus (simp only [List.all_map]; exact List.all_eq_true.2 fun _ _ => rfl)); (focus (simp only [List.all_map]; exact List.all_eq_true.2 fun _ _ => rfl)); (refine zNp ?_))
 refine pl_normV rfl ?_
 refine zNp ?_
 (repeat' (first | refine zSm ?_ | refine zq5 ?_ | refine zq6 ?_ | (refine zT ?_ ?_ <;> intro h <;> first | exact zX | refine zNq ?_)))
 (refine pl_op rfl (op_appendX (b := 8) hT rfl rfl rfl rfl (by simp) rfl (by simp only [List.all_map]; exact List.all_eq_true.2 fun _ _ => rfl) (by simp only [List.all_map]; exact List.all_eq_true.2 fun _ _ => rfl) (by simp; omega) (fun c2 _ => ?_)); refine zNp ?_)
 refine pl_frz1 1 21 rfl rfl (by simp) ?_
 refine pl_normV rfl ?_
 refine zNp ?_
 rw [← List.map_append]
 (repeat' (first | refine zS ?_ | refine zq5 ?_ | refine zq6 ?_ | (refine zT ?_ ?_ <;> intro h <;> first | exact zX | refine zNq ?_)))
 generalize starts (a ++ b) top = s at hst hsl ⊢
 refine pw_ghost 2 ?_
 refine zNq ?_
 have hki := kst_in hst ht.2 (φ := phi 1 a b)
 have hkl := kst_len (phi 1 a b) s top
 refine pw_for hD (fun x : Nat × Nat => [(10, .msl 2 2 0 ((kst (phi 1 a b) s top x.1).map eRng).length x.2), (11, .int .i64 x.1)]) (fun x => [.dead, .dead, .arr 2 ((kst (phi 1 a b) s top x.1).map eRng) x.2]) (fun x => x.1 ≤ s.length) (fun x => s.length - x.1) (0, 0) (Nat.zero_le _) 3 rfl (fun _ => rfl) zLes (fun _ => rfl) (fun _ => rfl) zLe ?_
 rintro ⟨i, cap⟩ hi
 dsimp only at hi ⊢
 have hx : i < s.length → 0 ≤ s.getD i default ∧ s.getD i default ≤ top := fun h => hst.rng _ (getD_mem' h)
 have hx1 : i + 1 < s.length → s.getD i default < s.getD (i + 1) default ∧ s.getD (i + 1) default ≤ top := fun h => ⟨asc_getD hst.asc (Nat.lt_succ_self i) h, (hst.rng _ (getD_mem' h)).2⟩
 have hse : i < s.length → s.getD i default ≤ segEnd s top i ∧ segEnd s top i ≤ top := fun h => segEnd_ge hst h
 have hk1 := hkl i
 have hk2 := hki i hi
 have hnext : kst (phi 1 a b) s top (i + 1) = if (memB a (s.getD i default) && memB b (s.getD i default)) = true then putSeg (kst (phi 1 a b) s top i) (s.getD i default) (segEnd s top i) else kst (phi 1 a b) s top i := rfl
 (repeat' (first | refine zS ?_ | refine zq5 ?_ | refine zq6 ?_))
 refine zT ?_ ?_ <;> intro h <;> refine zNq ?_
 ·have hlt : i < s.length := by omega
  have hx := hx hlt
  have hse := hse hlt
  (repeat' (first | refine zS ?_ | refine zq5 ?_ | refine zq6 ?_))
  refine pw_join hD True [(12, .int .u64 (segEnd s top i)), (36, .any)] [.dead, .dead, .arr 2 ((kst (phi 1 a b) s top i).map eRng) cap] 3 rfl rfl rfl rfl ?_ (fun _ => ?_)
  ·refine zT ?_ ?_ <;> intro h1 <;> refine zNq ?_
   ·rw [show segEnd s top i = s.getD (i + 1) default - 1 from if_pos (by omega)]
    have hx1 := hx1 (by omega)
    (repeat' (first | refine zS ?_ | refine zq5 ?_ | refine zq6 ?_))
    exact ⟨trivial, zLe, zLes⟩
   ·rw [show segEnd s top i = top from if_neg (by omega)]
    (repeat' (first | refine zS ?_ | refine zq5 ?_ | refine zq6 ?_))
    exact ⟨trivial, zLe, zLes⟩
  refine pw_room 2 rfl fun hroom => ?_
  rw [List.length_map] at hroom
  generalize segEnd s top i = e at hse hnext ⊢
  generalize kst (phi 1 a b) s top i = out at hk1 hk2 hnext hroom ⊢
  (repeat' (first | (refine zDr [[0,1,2,3,4,5,6,7,8,9,10,11,12,13,14,15,16]] ?_; refine zDn ?_) | (refine zDr [[0,1,2,3,4,5,7,8,9,10,11,12],[6,13],[14,15]] ?_; refine zDn ?_) | refine zS ?_ | refine zD ?_ | refine po_both ?_ ?_ | refine pwt_both ?_ ?_ | refine pwt_fork ?_ | refine pwt_lin ?_ | (refine po_test rfl rfl rfl rfl zB ?_ ?_ <;> intro hb <;> first | exact zX | refine zDn ?_) | refine zq5 ?_ | refine zq6 ?_))
  refine zT ?_ ?_ <;> intro h2 <;> refine zNq ?_
  ·rw [if_neg (by rw [Bool.and_eq_true]; exact h2)] at hnext
   (repeat' (first | refine zS ?_ | refine zq5 ?_ | refine zq6 ?_))
   refine ⟨(i + 1, cap), hlt, by dsimp only; omega, ?_, ?_⟩
   all_goals simp only [hnext]
   ·(exact zLe)
   ·(exact zLes)
  rw [if_pos (by rw [Bool.and_eq_true]; exact Decidable.not_not.1 h2)] at hnext
  unfold putSeg at hnext
  rcases List.eq_nil_or_concat out with rfl | ⟨p, q, rfl⟩
  ·have hnl : ([] : List TRng).length = 0 := rfl
   rw [if_neg (by simp)] at hnext
   (repeat' (first | (refine zDr [[0,1,2,3,4,5,6,7,8,9,10,11,12,13,14,15,16]] ?_; refine zDn ?_) | (refine zDr [[0,1,2,3,4,5,7,8,9,10,11,12],[6,13],[14,15]] ?_; refine zDn ?_) | refine zS ?_ | refine zD ?_ | refine po_both ?_ ?_ | refine pwt_both ?_ ?_ | refine pwt_fork ?_ | refine pwt_lin ?_ | (refine po_test rfl rfl rfl rfl zB ?_ ?_ <;> intro hb <;> first | exact zX | refine zDn ?_) | refine zq5 ?_ | refine zq6 ?_ | (refine zT ?_ ?_ <;> intro h <;> first | exact zX | refine zNq ?_)))
   (refine pl_append (b := 8) hT hD rfl rfl rfl rfl rfl rfl rfl rfl (.inl (Nat.zero_lt_succ _)) rfl rfl (by simp) (fun cap2 _ hcap => ?_); (refine zNp ?_))
   (repeat' (first | refine zS ?_ | refine zq5 ?_ | refine zq6 ?_ | (refine zT ?_ ?_ <;> intro h <;> first | exact zX | refine zNq ?_)))
   refine ⟨(i + 1, cap2), hlt, by dsimp only; omega, ?_, ?_⟩
   all_goals simp only [hnext]
   ·(exact zLe)
   ·(exact zLes)
  ·rw [List.concat_eq_append] at *
   have hq := hk2 q (by simp)
   have hll : (p ++ [q]).length = p.length + 1 := by simp
   unfold RIn at hq
   have hc0 : cap ≠ 0 := by omega
   have hix : ((p ++ [q]).map eRng)[0 + (((p ++ [q]).length : Int) - 1).toNat]? = some (eRng q) := by rw [show 0 + (((p ++ [q]).length : Int) - 1).toNat = p.length by omega]; simp
   have hgd : (p ++ [q]).getD ((p ++ [q]).length - 1) default = q := by simp [List.getD]
   have htk : (p ++ [q]).take ((p ++ [q]).length - 1) = p := by simp
   rw [hgd, htk] at hnext
   (repeat' (first | (refine zDr [[0,1,2,3,4,5,6,7,8,9,10,11,12,13,14,15,16]] ?_; refine zDn ?_) | (refine zDr [[0,1,2,3,4,5,7,8,9,10,11,12],[6,13],[14,15]] ?_; refine zDn ?_) | refine zS ?_ | refine zD ?_ | refine po_both ?_ ?_ | refine pwt_both ?_ ?_ | refine pwt_fork ?_ | refine pwt_lin ?_ | (refine po_test rfl rfl rfl rfl zB ?_ ?_ <;> intro hb <;> first | exact zX | refine zDn ?_) | refine zq5 ?_ | refine zq6 ?_ | (refine zT ?_ ?_ <;> intro h <;> first | exact zX | refine zNq ?_)))
   (refine po_gval rfl rfl rfl (v_indexm hT rfl rfl rfl rfl rfl (by omega) (by simp; omega) hc0) ?_; refine zDn ?_)
   refine zD ?_
   (refine po_gloadE (x0 := eRng q) rfl rfl rfl hT rfl rfl rfl rfl rfl (hc0) (hix) rfl ?_; (first | refine po_norm rfl ?_ | refine po_normE rfl ?_))
   (repeat' (first | (refine zDr [[0,1,2,3,4,5,6,7,8,9,10,11,12,13,14,15,16]] ?_; refine zDn ?_) | (refine zDr [[0,1,2,3,4,5,7,8,9,10,11,12],[6,13],[14,15]] ?_; refine zDn ?_) | refine zS ?_ | refine zD ?_ | refine po_both ?_ ?_ | refine pwt_both ?_ ?_ | refine pwt_fork ?_ | refine pwt_lin ?_ | (refine po_test rfl rfl rfl rfl zB ?_ ?_ <;> intro hb <;> first | exact zX | refine zDn ?_) | refine zq5 ?_ | refine zq6 ?_ | (refine zT ?_ ?_ <;> intro h <;> first | exact zX | refine zNq ?_)))
   ·rw [if_pos ⟨by omega, h⟩] at hnext
    (refine pl_op rfl (op_of (v_indexm hT rfl rfl rfl rfl rfl (by omega) (by simp; omega) hc0) ?_); (refine zNp ?_))
    (repeat' (first | refine zS ?_ | refine zq5 ?_ | refine zq6 ?_ | (refine zT ?_ ?_ <;> intro h <;> first | exact zX | refine zNq ?_)))
    (refine pl_op rfl (op_storeE' (x0 := eRng q) (x1 := eRng ⟨q.lo, e⟩) (xs' := (p ++ [(⟨q.lo, e⟩ : TRng)]).map eRng) hT rfl rfl rfl rfl rfl (hc0) (hix) rfl rfl rfl rfl (Nat.le_of_ble_eq_true rfl) rfl (by rw [show 0 + (((p ++ [q]).length : Int) - 1).toNat = p.length by omega]; simp) ?_); (refine zNp ?_))
    (repeat' (first | refine zS ?_ | refine zq5 ?_ | refine zq6 ?_ | (refine zT ?_ ?_ <;> intro h <;> first | exact zX | refine zNq ?_)))
    refine ⟨(i + 1, cap), hlt, by dsimp only; omega, ?_, ?_⟩
    all_goals simp only [hnext, List.map_append, List.length_append, List.map_cons, List.map_nil]
    ·(exact zLe)
    ·(exact zLes)
   ·rw [if_neg (by rintro ⟨_, g⟩; exact h g)] at hnext
    (refine pl_append (b := 8) hT hD rfl rfl rfl rfl rfl rfl rfl rfl (.inl (Nat.zero_lt_succ _)) rfl rfl (by simp; omega) (fun cap2 _ hcap => ?_); (refine zNp ?_))
    (repeat' (first | refine zS ?_ | refine zq5 ?_ | refine zq6 ?_ | (refine zT ?_ ?_ <;> intro h <;> first | exact zX | refine zNq ?_)))
    refine ⟨(i + 1, cap2), hlt, by dsimp only; omega, ?_, ?_⟩
    all_goals simp only [hnext, List.map_append, List.length_append, List.map_cons, List.map_nil]
    ·(exact zLe)
    ·(exact zLes)
 ·have hie : i = s.length := by omega
  subst hie
  (repeat' (first | refine zS ?_ | refine zq5 ?_ | refine zq6 ?_ | (refine zT ?_ ?_ <;> intro h <;> first | exact zX | refine zNq ?_)))
  exact ret0 _ (.sl ((kst (phi 1 a b) s top s.length).map eRng)) rfl rfl (.inr (.inr (.inr (.inl ⟨_, _, _, _, _, _, rfl, rfl, rfl, rfl, rfl⟩)))) rfl
theorem c_keepU (a b : List TRng) (top : Int) (hla : a.length < 100000) (hlb : b.length < 100000) (ht : 0 ≤ top ∧ top < 4294967296) (ha : ∀ r ∈ a, RIn r) (hb : ∀ r ∈ b, RIn r) : PFun Tryz.prog Gl 126 [.sl (a.map eRng), .sl (b.map eRng), .int .i64 0, .int .u32 top] fun r => r = .sl ((keepL 0 a b top).map eRng) := by
 (refine PFun.of hT Tryz.func126 rfl fun B hD => ?_; refine pw_norm rfl ?_)
 have hab : ∀ r ∈ a ++ b, RIn r := fun r hr => by
  rcases List.mem_append.1 hr with hr | hr
  ·exact ha r hr
  ·exact hb r hr
 have hll : (a ++ b).length = a.length + b.length := List.length_append
 unfold keepL
 have hst := starts_ok ht.1 hab
 have hsl := starts_len (a ++ b) top
 (repeat' (first | refine zSm ?_ | refine zq5 ?_ | refine zq6 ?_ | (refine zT ?_ ?_ <;> intro h <;> first | exact zX | refine zNq ?_)))
 (refine pl_op rfl (op_litm hT rfl rfl rfl rfl rfl (by decide) rfl rfl rfl rfl ?_); (refine zNp ?_))
 (repeat' (first | refine zSm ?_ | refine zq5 ?_ | refine zq6 ?_ | (refine zT ?_ ?_ <;> intro h <;> first | exact zX | refine zNq ?_)))
 (refine pl_appendN (b := 8) hT hD rfl rfl rfl rfl rfl rfl rfl rfl ?_ ?_ (by simp; omega) (fun c1 hcap => ?_); (focus (simp only [List.all_map]; exact List.all_eq_true.2 fun _ _ => rfl)); (focus (simp only [List.all_map]; exact List.all_eq_true.2 fun _ _ => rfl)); (refine zNp ?_))
 refine pl_normV rfl ?_
 refine zNp ?_
 (repeat' (first | refine zSm ?_ | refine zq5 ?_ | refine zq6 ?_ | (refine zT ?_ ?_ <;> intro h <;> first | exact zX | refine zNq ?_)))
 (refine pl_op rfl (op_appendX (b := 8) hT rfl rfl rfl rfl (by simp) rfl (by simp only [List.all_map]; exact List.all_eq_true.2 fun _ _ => rfl) (by simp only [List.all_map]; exact List.all_eq_true.2 fun _ _ => rfl) (by simp; omega) (fun c2 _ => ?_)); refine zNp ?_)
 refine pl_frz1 1 21 rfl rfl (by simp) ?_
 refine pl_normV rfl ?_
 refine zNp ?_
 rw [← List.map_append]
 (repeat' (first | refine zS ?_ | refine zq5 ?_ | refine zq6 ?_ | (refine zT ?_ ?_ <;> intro h <;> first | exact zX | refine zNq ?_)))
 generalize starts (a ++ b) top = s at hst hsl ⊢
 refine pw_ghost 2 ?_
 refine zNq ?_
 have hki := kst_in hst ht.2 (φ := phi 0 a b)
 have hkl := kst_len (phi 0 a b) s top
 refine pw_for hD (fun x : Nat × Nat => [(10, .msl 2 2 0 ((kst (phi 0 a b) s top x.1).map eRng).length x.2), (11, .int .i64 x.1)]) (fun x => [.dead, .dead, .arr 2 ((kst (phi 0 a b) s top x.1).map eRng) x.2]) (fun x => x.1 ≤ s.length) (fun x => s.length - x.1) (0, 0) (Nat.zero_le _) 3 rfl (fun _ => rfl) zLes (fun _ => rfl) (fun _ => rfl) zLe ?_
 rintro ⟨i, cap⟩ hi
 dsimp only at hi ⊢
 have hx : i < s.length → 0 ≤ s.getD i default ∧ s.getD i default ≤ top := fun h => hst.rng _ (getD_mem' h)
 have hx1 : i + 1 < s.length → s.getD i default < s.getD (i + 1) default ∧ s.getD (i + 1) default ≤ top := fun h => ⟨asc_getD hst.asc (Nat.lt_succ_self i) h, (hst.rng _ (getD_mem' h)).2⟩
 have hse : i < s.length → s.getD i default ≤ segEnd s top i ∧ segEnd s top i ≤ top := fun h => segEnd_ge hst h
 have hk1 := hkl i
 have hk2 := hki i hi
 have hnext : kst (phi 0 a b) s top (i + 1) = if (memB a (s.getD i default) || memB b (s.getD i default)) = true then putSeg (kst (phi 0 a b) s top i) (s.getD i default) (segEnd s top i) else kst (phi 0 a b) s top i := rfl
 (repeat' (first | refine zS ?_ | refine zq5 ?_ | refine zq6 ?_))
 refine zT ?_ ?_ <;> intro h <;> refine zNq ?_
 ·have hlt : i < s.length := by omega
  have hx := hx hlt
  have hse := hse hlt
  (repeat' (first | refine zS ?_ | refine zq5 ?_ | refine zq6 ?_))
  refine pw_join hD True [(12, .int .u64 (segEnd s top i)), (36, .any)] [.dead, .dead, .arr 2 ((kst (phi 0 a b) s top i).map eRng) cap] 3 rfl rfl rfl rfl ?_ (fun _ => ?_)
  ·refine zT ?_ ?_ <;> intro h1 <;> refine zNq ?_
   ·rw [show segEnd s top i = s.getD (i + 1) default - 1 from if_pos (by omega)]
    have hx1 := hx1 (by omega)
    (repeat' (first | refine zS ?_ | refine zq5 ?_ | refine zq6 ?_))
    exact ⟨trivial, zLe, zLes⟩
   ·rw [show segEnd s top i = top from if_neg (by omega)]
    (repeat' (first | refine zS ?_ | refine zq5 ?_ | refine zq6 ?_))
    exact ⟨trivial, zLe, zLes⟩
  refine pw_room 2 rfl fun hroom => ?_
  rw [List.length_map] at hroom
  generalize segEnd s top i = e at hse hnext ⊢
  generalize kst (phi 0 a b) s top i = out at hk1 hk2 hnext hroom ⊢
  (repeat' (first | (refine zDr [[0,1,2,3,4,5,6,7,8,9,10,11,12,13,14,15,16]] ?_; refine zDn ?_) | (refine zDr [[0,1,2,3,4,5,7,8,9,10,11,12],[6,13],[14,15]] ?_; refine zDn ?_) | refine zS ?_ | refine zD ?_ | refine po_both ?_ ?_ | refine pwt_both ?_ ?_ | refine pwt_fork ?_ | refine pwt_lin ?_ | (refine po_test rfl rfl rfl rfl zB ?_ ?_ <;> intro hb <;> first | exact zX | refine zDn ?_) | refine zq5 ?_ | refine zq6 ?_))
  refine zT ?_ ?_ <;> intro h2 <;> refine zNq ?_
  ·rw [if_neg (by rw [Bool.or_eq_true]; exact h2)] at hnext
   (repeat' (first | refine zS ?_ | refine zq5 ?_ | refine zq6 ?_))
   refine ⟨(i + 1, cap), hlt, by dsimp only; omega, ?_, ?_⟩
   all_goals simp only [hnext]
   ·(exact zLe)
   ·(exact zLes)
  rw [if_pos (by rw [Bool.or_eq_true]; exact Decidable.not_not.1 h2)] at hnext
  unfold putSeg at hnext
  rcases List.eq_nil_or_concat out with rfl | ⟨p, q, rfl⟩
  ·have hnl : ([] : List TRng).length = 0 := rfl
   rw [if_neg (by simp)] at hnext
   (repeat' (first | (refine zDr [[0,1,2,3,4,5,6,7,8,9,10,11,12,13,14,15,16]] ?_; refine zDn ?_) | (refine zDr [[0,1,2,3,4,5,7,8,9,10,11,12],[6,13],[14,15]] ?_; refine zDn ?_) | refine zS ?_ | refine zD ?_ | refine po_both ?_ ?_ | refine pwt_both ?_ ?_ | refine pwt_fork ?_ | refine pwt_lin ?_ | (refine po_test rfl rfl rfl rfl zB ?_ ?_ <;> intro hb <;> first | exact zX | refine zDn ?_) | refine zq5 ?_ | refine zq6 ?_ | (refine zT ?_ ?_ <;> intro h <;> first | exact zX | refine zNq ?_)))
   (refine pl_append (b := 8) hT hD rfl rfl rfl rfl rfl rfl rfl rfl (.inl (Nat.zero_lt_succ _)) rfl rfl (by simp) (fun cap2 _ hcap => ?_); (refine zNp ?_))
   (repeat' (first | refine zS ?_ | refine zq5 ?_ | refine zq6 ?_ | (refine zT ?_ ?_ <;> intro h <;> first | exact zX | refine zNq ?_)))
   refine ⟨(i + 1, cap2), hlt, by dsimp only; omega, ?_, ?_⟩
   all_goals simp only [hnext]
   ·(exact zLe)
   ·(exact zLes)
  ·rw [List.concat_eq_append] at *
   have hq := hk2 q (by simp)
   have hll : (p ++ [q]).length = p.length + 1 := by simp
   unfold RIn at hq
   have hc0 : cap ≠ 0 := by omega
   have hix : ((p ++ [q]).map eRng)[0 + (((p ++ [q]).length : Int) - 1).toNat]? = some (eRng q) := by rw [show 0 + (((p ++ [q]).length : Int) - 1).toNat = p.length by omega]; simp
   have hgd : (p ++ [q]).getD ((p ++ [q]).length - 1) default = q := by simp [List.getD]
   have htk : (p ++ [q]).take ((p ++ [q]).length - 1) = p := by simp
   rw [hgd, htk] at hnext
   (repeat' (first | (refine zDr [[0,1,2,3,4,5,6,7,8,9,10,11,12,13,14,15,16]] ?_; refine zDn ?_) | (refine zDr [[0,1,2,3,4,5,7,8,9,10,11,12],[6,13],[14,15]] ?_; refine zDn ?_) | refine zS ?_ | refine zD ?_ | refine po_both ?_ ?_ | refine pwt_both ?_ ?_ | refine pwt_fork ?_ | refine pwt_lin ?_ | (refine po_test rfl rfl rfl rfl zB ?_ ?_ <;> intro hb <;> first | exact zX | refine zDn ?_) | refine zq5 ?_ | refine zq6 ?_ | (refine zT ?_ ?_ <;> intro h <;> first | exact zX | refine zNq ?_)))
   (refine po_gval rfl rfl rfl (v_indexm hT rfl rfl rfl rfl rfl (by omega) (by simp; omega) hc0) ?_; refine zDn ?_)
   refine zD ?_
   (refine po_gloadE (x0 := eRng q) rfl rfl rfl hT rfl rfl rfl rfl rfl (hc0) (hix) rfl ?_; (first | refine po_norm rfl ?_ | refine po_normE rfl ?_))
   (repeat' (first | (refine zDr [[0,1,2,3,4,5,6,7,8,9,10,11,12,13,14,15,16]] ?_; refine zDn ?_) | (refine zDr [[0,1,2,3,4,5,7,8,9,10,11,12],[6,13],[14,15]] ?_; refine zDn ?_) | refine zS ?_ | refine zD ?_ | refine po_both ?_ ?_ | refine pwt_both ?_ ?_ | refine pwt_fork ?_ | refine pwt_lin ?_ | (refine po_test rfl rfl rfl rfl zB ?_ ?_ <;> intro hb <;> first | exact zX | refine zDn ?_) | refine zq5 ?_ | refine zq6 ?_ | (refine zT ?_ ?_ <;> intro h <;> first | exact zX | refine zNq ?_)))
   ·rw [if_pos ⟨by omega, h⟩] at hnext
    (refine pl_op rfl (op_of (v_indexm hT rfl rfl rfl rfl rfl (by omega) (by simp; omega) hc0) ?_); (refine zNp ?_))
    (repeat' (first | refine zS ?_ | refine zq5 ?_ | refine zq6 ?_ | (refine zT ?_ ?_ <;> intro h <;> first | exact zX | refine zNq ?_)))
    (refine pl_op rfl (op_storeE' (x0 := eRng q) (x1 := eRng ⟨q.lo, e⟩) (xs' := (p ++ [(⟨q.lo, e⟩ : TRng)]).map eRng) hT rfl rfl rfl rfl rfl (hc0) (hix) rfl rfl rfl rfl (Nat.le_of_ble_eq_true rfl) rfl (by rw [show 0 + (((p ++ [q]).length : Int) - 1).toNat = p.length by omega]; simp) ?_); (refine zNp ?_))
    (repeat' (first | refine zS ?_ | refine zq5 ?_ | refine zq6 ?_ | (refine zT ?_ ?_ <;> intro h <;> first | exact zX | refine zNq ?_)))
    refine ⟨(i + 1, cap), hlt, by dsimp only; omega, ?_, ?_⟩
    all_goals simp only [hnext, List.map_append, List.length_append, List.map_cons, List.map_nil]
    ·(exact zLe)
    ·(exact zLes)
   ·rw [if_neg (by rintro ⟨_, g⟩; exact h g)] at hnext
    (refine pl_append (b := 8) hT hD rfl rfl rfl rfl rfl rfl rfl rfl (.inl (Nat.zero_lt_succ _)) rfl rfl (by simp; omega) (fun cap2 _ hcap => ?_); (refine zNp ?_))
    (repeat' (first | refine zS ?_ | refine zq5 ?_ | refine zq6 ?_ | (refine zT ?_ ?_ <;> intro h <;> first | exact zX | refine zNq ?_)))
    refine ⟨(i + 1, cap2), hlt, by dsimp only; omega, ?_, ?_⟩
    all_goals simp only [hnext, List.map_append, List.length_append, List.map_cons, List.map_nil]
    ·(exact zLe)
    ·(exact zLes)
 ·have hie : i = s.length := by omega
  subst hie
  (repeat' (first | refine zS ?_ | refine zq5 ?_ | refine zq6 ?_ | (refine zT ?_ ?_ <;> intro h <;> first | exact zX | refine zNq ?_)))
  exact ret0 _ (.sl ((kst (phi 0 a b) s top s.length).map eRng)) rfl rfl (.inr (.inr (.inr (.inl ⟨_, _, _, _, _, _, rfl, rfl, rfl, rfl, rfl⟩)))) rfl
theorem c_ruisect (a b : List TRng) (hla : a.length < 100000) (hlb : b.length < 100000) (ha : ∀ r ∈ a, RIn r) (hb : ∀ r ∈ b, RIn r) : PFun Tryz.prog Gl 83 [.sl (a.map eRng), .sl (b.map eRng)] fun r => r = .sl ((isect a b).map eRng) := by
 (refine PFun.of hT Tryz.func83 rfl fun B hD => ?_; refine pw_norm rfl ?_)
 (repeat' (first | refine zS ?_ | (refine zT ?_ ?_ <;> intro h <;> first | exact zX | refine zNq ?_)))
 (refine pl_op rfl (op_fun (c_keepI a b 4294967295 hla hlb ⟨by omega, by omega⟩ ha hb) rfl rfl e126 zLe rfl (fun r hr => ?_)); subst hr; refine ⟨rfl, ?_⟩; (refine zNp ?_))
 (repeat' (first | refine zS ?_ | (refine zT ?_ ?_ <;> intro h <;> first | exact zX | refine zNq ?_)))
 rw [keepL_isect ha hb]
 exact ret2 _ rfl rfl rfl
theorem c_ruunion (a : List TRng) (hla : a.length < 100000) (ha : ∀ r ∈ a, RIn r) : PFun Tryz.prog Gl 130 [.sl (a.map eRng), .sl []] fun r => r = .sl ((canon a).map eRng) := by
 (refine PFun.of hT Tryz.func130 rfl fun B hD => ?_; refine pw_norm rfl ?_)
 (repeat' (first | refine zS ?_ | (refine zT ?_ ?_ <;> intro h <;> first | exact zX | refine zNq ?_)))
 (refine pl_op rfl (op_fun (c_keepU a [] 4294967295 hla (by simp) ⟨by omega, by omega⟩ ha (by simp)) rfl rfl e126 zLe rfl (fun r hr => ?_)); subst hr; refine ⟨rfl, ?_⟩; (refine zNp ?_))
 (repeat' (first | refine zS ?_ | (refine zT ?_ ?_ <;> intro h <;> first | exact zX | refine zNq ?_)))
 rw [keepL_canon ha]
 exact ret2 _ rfl rfl rfl
instance (a b : List TRng) : ConF Tryz.prog Gl 83 [.sl (a.map eRng), .sl (b.map eRng)] (a.length < 100000 ∧ b.length < 100000 ∧ (∀ r ∈ a, RIn r) ∧ ∀ r ∈ b, RIn r) (.sl ((isect a b).map eRng)) := ⟨e83, fun h => c_ruisect a b h.1 h.2.1 h.2.2.1 h.2.2.2⟩
end
section
theorem cut_cases (c : UInt8) (s : Str) : (c ∉ s ∧ Lib.cut s [c] = (s, [], false) ∧ parts c s = [s]) ∨ ∃ a b, s = a ++ c :: b ∧ c ∉ a ∧ Lib.cut s [c] = (a, b, true) ∧ parts c s = a :: parts c b := by
 rcases index_one c s with ⟨h1, h2⟩ | ⟨a, b, h1, h2, h3⟩
 ·exact .inl ⟨h1, by unfold Lib.cut; rw [h2, if_neg (by decide)], by unfold parts; rw [parts_none h1]; rfl⟩
 ·exact .inr ⟨a, b, h1, h2, by unfold Lib.cut; rw [h3, if_pos (by omega), h1]; simp, by rw [h1]; exact parts_some h2 []⟩
theorem pair2_byte {s : Str} (h : 0 ≤ pair2 s) : s.length = 2 ∧ ∀ c ∈ s, 48 ≤ c.toNat ∧ c.toNat ≤ 57 := by
 unfold pair2 at h
 split at h
 ·rename_i h1
  refine ⟨h1.1, fun c hc => ?_⟩
  match s, h1 with
  | [a, b], h1 =>
   simp at hc h1
   rcases hc with rfl | rfl <;> omega
 ·omega
def rclock (s : Str) : Int := if s = [50, 52, 58, 48, 48] then 1440 else if s.length = 5 ∧ s.getD 2 0 = 58 ∧ 0 ≤ pair2 (s.take 2) ∧ pair2 (s.take 2) ≤ 23 ∧ 0 ≤ pair2 (s.drop 3) ∧ pair2 (s.drop 3) ≤ 59 then 60 * pair2 (s.take 2) + pair2 (s.drop 3) else -1
theorem cut_at {c : UInt8} {a b : Str} (h : c ∉ a) : Lib.cut (a ++ c :: b) [c] = (a, b, true) := by
 rcases cut_cases c (a ++ c :: b) with ⟨h1, _⟩ | ⟨x, y, h1, h2, h3, _⟩
 ·exact absurd (by simp) h1
 ·have ht : ∀ (u v : Str), c ∉ u → (u ++ c :: v).takeWhile (fun x => !(x == c)) = u := fun u v hu => by
   rw [List.takeWhile_append_of_pos (fun x hx => by simp; rintro rfl; exact hu hx)]; simp
  have h4 := congrArg (fun l => l.takeWhile (fun x => !(x == c))) h1

  rw [ht _ _ h, ht _ _ h2] at h4
  subst h4
  have h5 := (List.cons.inj (List.append_cancel_left h1)).2
  subst h5
  exact h3
theorem five_split {s : Str} (h4 : s.length = 5) (h5 : s.getD 2 0 = 58) : s = s.take 2 ++ 58 :: s.drop 3 := by
 match s with
 | [x1, x2, x3, x4, x5] => simp at h5; subst h5; rfl
 | [] | [_] | [_, _] | [_, _, _] | [_, _, _, _] | _ :: _ :: _ :: _ :: _ :: _ :: _ => simp at h4
theorem hm_of {a b : Str} (h : 0 ≤ pair2 a ∧ pair2 a ≤ 23 ∧ 0 ≤ pair2 b ∧ pair2 b ≤ 59) : hm a b true = 60 * pair2 a + pair2 b := if_pos ⟨rfl, h⟩
theorem rclock_eq (s : Str) : rclock s = clock s := by
 unfold rclock clock
 split
 ·rfl
 split
 ·rename_i h
  obtain ⟨h4, h5, h6⟩ := h
  have hn : (58 : UInt8) ∉ s.take 2 := fun hm => by have := (pair2_byte h6.1).2 _ hm; revert this; decide
  have e : Lib.cut s [58] = (s.take 2, s.drop 3, true) := by
   have := cut_at (b := s.drop 3) hn
   rwa [← five_split h4 h5] at this
  rw [e]
  exact (hm_of h6).symm
 ·rename_i h0 h
  unfold hm
  rcases cut_cases 58 s with ⟨h1, h2, _⟩ | ⟨a, b, h1, h2, h3, _⟩
  ·rw [h2, if_neg (by simp)]
  ·rw [h3]
   rw [if_neg]
   rintro ⟨_, hc⟩
   dsimp only at hc
   obtain ⟨ha, _⟩ := pair2_byte hc.1
   obtain ⟨hb, _⟩ := pair2_byte hc.2.2.1
   have e1 : s.take 2 = a := by rw [h1, ← ha]; simp
   have e2 : s.drop 3 = b := by rw [h1, show 3 = a.length + 1 by omega]; simp
   have e3 : s.getD 2 0 = 58 := by rw [h1, ← ha]; simp
   exact h ⟨by rw [h1]; simp; omega, e3, by rw [e1, e2]; exact hc⟩
theorem dayIx_dash {s : Str} (h : (45 : UInt8) ∈ s) : dayIx s = -1 := by
 unfold dayIx
 refine firstAt_miss fun j x hx => ?_
 have : x ∈ dayNames := List.mem_of_getElem? hx
 rw [beq_eq_false_iff_ne]
 rintro rfl
 have hd : ∀ y ∈ dayNames, (45 : UInt8) ∉ y := by decide
 exact hd _ this h
theorem clock_dash {s : Str} (h : (45 : UInt8) ∈ s) : clock s = -1 := by
 rw [← rclock_eq]
 unfold rclock
 rw [if_neg (by rintro rfl; revert h; decide), if_neg]
 rintro ⟨h4, h5, h6⟩
 rw [five_split h4 h5] at h
 rcases List.mem_append.1 h with h | h
 ·have := (pair2_byte h6.1).2 _ h; revert this; decide
 ·rcases List.mem_cons.1 h with h | h
  ·revert h; decide
  ·have := (pair2_byte h6.2.2.1).2 _ h; revert this; decide
theorem clock_nil : clock [] = -1 := by decide
def spanA (w : Str) : Int := dayIx (Lib.cut w [45]).1
def spanB (w : Str) : Int := dayIx (if (Lib.cut w [45]).2.2 = true then (Lib.cut w [45]).2.1 else (Lib.cut w [45]).1)
def spanOk (w : Str) : Bool := decide (spanA w ≥ 0) && decide (spanB w ≥ spanA w)
def timeA (w : Str) : Int := clock (Lib.cut w [45]).1
def timeB (w : Str) : Int := clock (Lib.cut w [45]).2.1
def timeOk (w : Str) : Bool := decide (timeA w ≥ 0) && decide (timeB w > timeA w)
def rspan (w : Str) : Int × Int := if (parts 45 w).length > 2 then (-1, -1) else if dayIx ((parts 45 w).getD 0 []) < 0 ∨ dayIx ((parts 45 w).getD ((parts 45 w).length - 1) []) < dayIx ((parts 45 w).getD 0 []) then (-1, -1) else (dayIx ((parts 45 w).getD 0 []), dayIx ((parts 45 w).getD ((parts 45 w).length - 1) []))
def rtimes (w : Str) : Int × Int := if (parts 45 w).length ≠ 2 then (-1, -1) else if clock ((parts 45 w).getD 0 []) < 0 ∨ clock ((parts 45 w).getD 1 []) ≤ clock ((parts 45 w).getD 0 []) then (-1, -1) else (clock ((parts 45 w).getD 0 []), clock ((parts 45 w).getD 1 []))
theorem rspan_eq (w : Str) : rspan w = if spanOk w = true then (spanA w, spanB w) else (-1, -1) := by
 unfold rspan spanOk spanA spanB
 rcases cut_cases 45 w with ⟨h1, h2, h3⟩ | ⟨a, b, h1, h2, h3, h4⟩
 ·rw [h2, h3]
  simp
  split <;> split <;> first | rfl | exact zX
 ·rw [h3, h4]
  by_cases hb : (45 : UInt8) ∈ b
  ·have := List.count_pos_iff.2 hb
   rw [if_pos (by rw [List.length_cons, parts_len]; omega), if_neg]
   simp [dayIx_dash hb]
   intro h; omega
  ·have e : parts 45 b = [b] := by unfold parts; rw [parts_none hb]; rfl
   rw [e]
   simp
   split <;> split <;> first | rfl | exact zX
theorem rtimes_eq (w : Str) : rtimes w = if timeOk w = true then (timeA w, timeB w) else (-1, -1) := by
 unfold rtimes timeOk timeA timeB
 rcases cut_cases 45 w with ⟨h1, h2, h3⟩ | ⟨a, b, h1, h2, h3, h4⟩
 ·rw [h2, h3]
  simp [clock_nil]
  intro h; omega
 ·rw [h3, h4]
  by_cases hb : (45 : UInt8) ∈ b
  ·have := List.count_pos_iff.2 hb
   rw [if_pos (by rw [List.length_cons, parts_len]; omega), if_neg]
   simp [clock_dash hb]
   intro h; omega
  ·have e : parts 45 b = [b] := by unfold parts; rw [parts_none hb]; rfl
   rw [e]
   simp
   split <;> split <;> first | rfl | exact zX

end
end Go.Proofs.YtkaobkjcjodffaaGreatDoor