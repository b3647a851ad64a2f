/-
 The common part of two canonical lists, computed with two pointers; a test whether a list is canonical.
-/
import Derived.Test.YtkaobkjcjodffaaGreatDoorTM1
set_option maxHeartbeats 20000000
set_option maxRecDepth 100000
namespace Go.Proofs.YtkaobkjcjodffaaGreatDoor
open Go Go.Pw
section
variable {Gl : Glob}
attribute [local irreducible] PW PWL OpP PCalls PWO
theorem PFun.le {P : Program} {f : FuncId} {args args' : List PV} {R : PV → Prop} (h : PFun P Gl f args' R) (hl : Le args args') : PFun P Gl f args R := by
 unfold PFun PCalls at *
 exact fun A w β vals hi ha => h A w β vals hi (EnvRel.weaken ha hl)
theorem c_grow (n : Nat) (h0 : 0 < n) (h1 : n < 4294967296) : PCalls Tryz.prog Gl 207 [.nilsl, .int .i64 n] [] fun r s => ∃ cap, cap ≠ 0 ∧ r = .msl 2 0 0 0 cap ∧ s = [.arr 2 [] cap] := by
 unfold PCalls
 intro A w β vals hi ha
 obtain ⟨hl, har⟩ := ha
 match vals, hl with
 | [v0, v1], _ =>
 have d0 := har 0 _ _ rfl rfl
 have d1 := har 1 _ _ rfl rfl
 obtain rfl := d1.int_inv
 cases d0
 obtain ⟨e, tie, zv, hty, hb⟩ := appOk_spec (T := 74) (T2 := 74) (s := 2) (b := 8) hT rfl
 obtain rfl : e = 85 := by
  have h1 := hty.u
  have h2 := Tryz.underlying74
  rw [h2] at h1
  cases h1; rfl
 have hbl : β = [] := List.length_eq_zero_iff.1 hi.len
 subst hbl
 have hcon := Any8.slices_Grow_grow Tryz.laysGrow tie zv hty.i hty.z (by rw [hty.sz]; decide) none 0 0 n [] w (Nat.le_refl _) (by omega) (by rw [hty.by']; omega) (by omega) (by simp) (fun _ => rfl) (fun a h => by cases h)
 refine Calls.mono hcon ?_
 rintro e w' ⟨rfl, rfl⟩
 have hge := grownCap_ge w (0 + n) 0 (Tryz.laysGrow_ren.t 25)
 have hle := grownCap_le_maxLen w (0 + n) 0 (Tryz.laysGrow_ren.t 25) (by unfold maxLen; omega)
 generalize grownCap w (0 + n) 0 (Tryz.laysGrow_ren.t 25) = G at hge hle ⊢
 have hx : ObjRel A ([] ++ [w.drew.heap.size]) (w.drew.alloc (.cells (([] : List Value).toArray ++ Builtin.zeroCells zv.cells (0 + n - 0) ++ Builtin.zeroCells zv.cells (G - (0 + n))) (Tryz.laysGrow_ren.t 25))) w.drew.heap.size (.arr 2 [] G) := by
  refine ⟨Nat.zero_le _, hle, by simp, fun _ => ⟨(([] : List Value).toArray ++ Builtin.zeroCells zv.cells (0 + n - 0) ++ Builtin.zeroCells zv.cells (G - (0 + n))).toList, Tryz.laysGrow_ren.t 25, ((0 : Nat), (0 : Nat)), ?_, ?_, fun j _ h => absurd h.2 (Nat.not_lt_zero _), by simp⟩⟩
  ·rw [Array.toArray_toList]
   show (w.drew.heap.push _)[w.drew.heap.size]? = _
   rw [Array.getElem?_push_size]
  ·have e1 := zeroCells_len zv (0 + n - 0)
   have e2 := zeroCells_len zv (G - (0 + n))
   rw [hty.zs] at e1 e2
   simp only [Array.toList_append, List.length_append, e1, e2]
   simp
   omega
 have hi2 := Inv.snoc (hi.drew) _ _ hx
 refine ⟨.msl 2 0 0 0 G, _, _, A, _, rfl, ⟨G, by omega, rfl, rfl⟩, ?_, hi2⟩
 exact .msl _ 2 0 0 0 G _ rfl
theorem c_concat (a : List TRng) (h0 : a ≠ []) (hl : a.length < 4294967296) : PFun Tryz.prog Gl 175 [.sl [.sl (a.map eRng), .sl []]] fun r => r = .sl (a.map eRng) := by
 (refine PFun.of hT Tryz.func175 rfl fun B hD => ?_; refine pw_norm rfl ?_)
 have hpos : 0 < a.length := List.length_pos_iff.2 h0
 have hall : ∀ l : List TRng, (l.map eRng).all (fun y => y.cells.length == 2) = true := fun l => by simp only [List.all_map]; exact List.all_eq_true.2 fun _ _ => rfl
 have hone : ∀ l : List TRng, (l.map eRng).all (fun y => y.cells.all PV.one) = true := fun l => by simp only [List.all_map]; exact List.all_eq_true.2 fun _ _ => rfl
 (repeat' (first | refine zS ?_ | (refine zT ?_ ?_ <;> intro h <;> first | exact zX | refine zNq ?_)))
 refine pw_for hD (fun i : Nat => [(11, .int .i64 i), (3, .int .i64 (if i = 0 then 0 else (a.length : Int)))]) (fun _ => []) (fun i => i ≤ 2) (fun i => 2 - i) 0 (by omega) 0 rfl (fun _ => rfl) zLes (fun _ => rfl) (fun _ => rfl) zLe ?_
 intro i hi
 have hi' : i = 0 ∨ i = 1 ∨ i = 2 := by omega
 rcases hi' with rfl | rfl | rfl
 ·(repeat' (first | refine zS ?_ | (refine zT ?_ ?_ <;> intro h <;> first | exact zX | refine zNq ?_)))
  (refine pl_op rfl (op_of (v_index (p := .sl (a.map eRng)) hT rfl rfl rfl rfl (by omega) rfl rfl) ?_); (refine zNp ?_))
  (repeat' (first | refine zS ?_ | (refine zT ?_ ?_ <;> intro h <;> first | exact zX | refine zNq ?_)))
  exact ⟨1, by omega, by omega, by simp only [if_true, Int.zero_add]; (exact zLe), zLes⟩
 ·rw [if_neg (show ¬ (1 : Nat) = 0 by decide)]
  (repeat' (first | refine zS ?_ | (refine zT ?_ ?_ <;> intro h <;> first | exact zX | refine zNq ?_)))
  (refine pl_op rfl (op_of (v_index (p := .sl []) hT rfl rfl rfl rfl (by omega) rfl rfl) ?_); (refine zNp ?_))
  have hz : ([] : List PV).length = 0 := rfl
  (repeat' (first | refine zS ?_ | (refine zT ?_ ?_ <;> intro h <;> first | exact zX | refine zNq ?_)))
  exact ⟨2, by omega, by omega, by simp only [hz, Int.add_zero, show ¬ (2 : Nat) = 0 by decide, if_false, Int.natCast_zero]; (exact zLe), zLes⟩
 rw [if_neg (show ¬ (2 : Nat) = 0 by decide)]
 (repeat' (first | refine zS ?_ | (refine zT ?_ ?_ <;> intro h <;> first | exact zX | refine zNq ?_)))
 (refine pl_op rfl (zCl [] e207 (c_grow a.length hpos hl) (fun r s hq => ?_)); obtain ⟨cap, hcap, rfl, rfl⟩ := hq; refine ⟨rfl, rfl, ?_⟩; (refine zNp ?_))
 (repeat' (first | refine zS ?_ | (refine zT ?_ ?_ <;> intro h <;> first | exact zX | refine zNq ?_)))
 refine pw_for hD (fun i : Nat × Nat => [(27, .int .i64 i.1), (24, .any), (6, .msl 2 0 0 (if i.1 = 0 then [] else a.map eRng).length i.2)]) (fun i => [.arr 2 (if i.1 = 0 then [] else a.map eRng) i.2]) (fun i => i.1 ≤ 2 ∧ i.2 ≠ 0) (fun i => 2 - i.1) (0, cap) ⟨by omega, hcap⟩ 1 rfl (fun _ => rfl) zLes (fun _ => rfl) (fun _ => rfl) zLe ?_
 rintro ⟨i, cap⟩ ⟨hi, hcap⟩
 dsimp only at hi hcap ⊢
 have hi' : i = 0 ∨ i = 1 ∨ i = 2 := by omega
 rcases hi' with rfl | rfl | rfl
 ·(repeat' (first | refine zS ?_ | (refine zT ?_ ?_ <;> intro h <;> first | exact zX | refine zNq ?_)))
  (refine pl_op rfl (op_of (v_index (p := .sl (a.map eRng)) hT rfl rfl rfl rfl (by omega) rfl rfl) ?_); (refine zNp ?_))
  (repeat' (first | refine zS ?_ | (refine zT ?_ ?_ <;> intro h <;> first | exact zX | refine zNq ?_)))
  refine pl_append (b := 8) hT hD rfl rfl rfl rfl rfl rfl rfl rfl (.inr hcap) (hall a) (hone a) (by simp; omega) fun cap' h1 h2 => ?_
  refine zNp ?_
  (repeat' (first | refine zS ?_ | (refine zT ?_ ?_ <;> intro h <;> first | exact zX | refine zNq ?_)))
  refine ⟨(1, cap'), ⟨by show 1 ≤ 2; omega, h2⟩, by show 2 - 1 < 2 - 0; omega, ?_, ?_⟩
  all_goals simp only [if_true, List.length_nil, Nat.zero_add, List.nil_append, Nat.one_ne_zero, if_false]
  ·(exact zLe)
  ·(exact zLes)
 ·rw [if_neg (show ¬ (1 : Nat) = 0 by decide)]
  (repeat' (first | refine zS ?_ | (refine zT ?_ ?_ <;> intro h <;> first | exact zX | refine zNq ?_)))
  (refine pl_op rfl (op_of (v_index (p := .sl []) hT rfl rfl rfl rfl (by omega) rfl rfl) ?_); (refine zNp ?_))
  (repeat' (first | refine zS ?_ | (refine zT ?_ ?_ <;> intro h <;> first | exact zX | refine zNq ?_)))
  refine pl_append (b := 8) hT hD rfl rfl rfl rfl rfl rfl rfl rfl (.inr hcap) rfl rfl (by simp; omega) fun cap' h1 h2 => ?_
  refine zNp ?_
  (repeat' (first | refine zS ?_ | (refine zT ?_ ?_ <;> intro h <;> first | exact zX | refine zNq ?_)))
  refine ⟨(2, cap'), ⟨by show 2 ≤ 2; omega, h2⟩, by show 2 - 2 < 2 - 1; omega, ?_, ?_⟩
  all_goals simp only [List.length_nil, Nat.add_zero, List.append_nil, show ¬ (2 : Nat) = 0 by decide, if_false]
  ·(exact zLe)
  ·(exact zLes)
 ·rw [if_neg (show ¬ (2 : Nat) = 0 by decide)]
  (repeat' (first | refine zS ?_ | (refine zT ?_ ?_ <;> intro h <;> first | exact zX | refine zNq ?_)))
  exact ret0 _ (.sl (a.map eRng)) rfl rfl (.inr (.inr (.inr (.inl ⟨_, _, _, _, _, _, rfl, rfl, rfl, rfl, rfl⟩)))) rfl
theorem c_union (a : List TRng) (hl : a.length < 4294967296) (hin : ∀ r ∈ a, RIn r) (h0 : a.filter (fun r => decide (r.lo ≤ r.hi)) ≠ []) : PFun Tryz.prog Gl 143 [.sl (a.map eRng), .sl []] fun r => r = .sl ((canon a).map eRng) := by
 (refine PFun.of hT Tryz.func143 rfl fun B hD => ?_; refine pw_norm rfl ?_)
 have hne : a ≠ [] := by rintro rfl; exact h0 rfl
 (repeat' (first | refine zS ?_ | (refine zT ?_ ?_ <;> intro h <;> first | exact zX | refine zNq ?_)))
 (refine pl_op rfl (op_fun (c_concat a hne hl) rfl rfl e175 zLe rfl (fun r hr => ?_)); subst hr; refine ⟨rfl, ?_⟩; (refine zNp ?_))
 (refine pl_op rfl (op_fun (c_canonical a hl hin h0) rfl rfl e174 zLe rfl (fun r hr => ?_)); subst hr; refine ⟨rfl, ?_⟩; (refine zNp ?_))
 (repeat' (first | refine zS ?_ | (refine zT ?_ ?_ <;> intro h <;> first | exact zX | refine zNq ?_)))
 exact ret1 _ rfl rfl rfl
theorem Can.le : ∀ {l : List TRng}, Can l → ∀ r ∈ l, r.lo ≤ r.hi
 | [], _, r, h => by cases h
 | s :: l, h, r, hr => by
  cases h with
  | cons _ _ a1 a2 a3 =>
   rcases List.mem_cons.1 hr with rfl | hr
   ·exact a1
   ·exact Can.le a3 r hr
theorem Can.filt {l : List TRng} (h : Can l) : l.filter (fun r => decide (r.lo ≤ r.hi)) = l := List.filter_eq_self.2 fun r hr => decide_eq_true (h.le r hr)
def isx1 (r s : TRng) : List TRng := if max r.lo s.lo ≤ min r.hi s.hi then [⟨max r.lo s.lo, min r.hi s.hi⟩] else []
def isx : List TRng → List TRng → List TRng
 | r :: a, s :: b => isx1 r s ++ if r.hi < s.hi then isx a (s :: b) else isx (r :: a) b
 | _, _ => []
termination_by a b => a.length + b.length
theorem isx_nil_left (b : List TRng) : isx [] b = [] := by unfold isx; rfl
theorem isx_nil_right (a : List TRng) : isx a [] = [] := by unfold isx; cases a <;> rfl
theorem isx_cons (r s : TRng) (a b : List TRng) : isx (r :: a) (s :: b) = isx1 r s ++ if r.hi < s.hi then isx a (s :: b) else isx (r :: a) b := by rw [isx]
theorem isx1_mem {r s x : TRng} (h : x ∈ isx1 r s) : x = ⟨max r.lo s.lo, min r.hi s.hi⟩ ∧ max r.lo s.lo ≤ min r.hi s.hi := by
 unfold isx1 at h
 split at h
 ·rename_i hc; exact ⟨List.mem_singleton.1 h, hc⟩
 ·cases h
theorem isx1_can (r s : TRng) : Can (isx1 r s) := by
 unfold isx1
 split
 ·rename_i hc; exact .one hc
 ·exact .nil
theorem isx1_in (r s : TRng) (v : Int) : mem (isx1 r s) v ↔ (r.lo ≤ v ∧ v ≤ r.hi) ∧ (s.lo ≤ v ∧ v ≤ s.hi) := by
 unfold isx1
 split
 ·rw [mem_cons]; simp only [mem_nil, or_false]; omega
 ·simp only [mem_nil, false_iff]; omega
theorem isx_ok : ∀ (n : Nat) (a b : List TRng), a.length + b.length ≤ n → Can a → Can b → Can (isx a b) ∧ (∀ v, mem (isx a b) v ↔ mem a v ∧ mem b v) ∧ ∀ x ∈ isx a b, (∃ r ∈ a, r.lo ≤ x.lo) ∧ ∃ s ∈ b, s.lo ≤ x.lo := by
 intro n
 induction n with
 | zero =>
  intro a b h _ _
  have : a = [] := List.length_eq_zero_iff.1 (by omega)
  subst this
  rw [isx_nil_left]
  exact ⟨.nil, fun v => by simp [mem_nil], by simp⟩
 | succ n ih =>
  intro a b h ha hb
  match a, b, h, ha, hb with
  | [], b, _, _, _ => rw [isx_nil_left]; exact ⟨.nil, fun v => by simp [mem_nil], by simp⟩
  | r :: a, [], _, _, _ => rw [isx_nil_right]; exact ⟨.nil, fun v => by simp [mem_nil], by simp⟩
  | r :: a, s :: b, h, ha, hb =>
   have ha' := ha
   have hb' := hb
   cases ha with
   | cons _ _ a1 a2 a3 =>
    cases hb with
    | cons _ _ b1 b2 b3 =>
     rw [isx_cons]
     simp only [List.length_cons] at h
     split
     ·rename_i hlt
      obtain ⟨c1, c2, c3⟩ := ih a (s :: b) (by simp only [List.length_cons]; omega) a3 hb'
      refine ⟨Can.append (isx1_can r s) c1 fun x hx y hy => ?_, fun v => ?_, fun x hx => ?_⟩
      ·obtain ⟨rfl, h1⟩ := isx1_mem hx
       obtain ⟨⟨r', hr', h2⟩, _⟩ := c3 y hy
       have := a2 r' hr'
       show min r.hi s.hi + 2 ≤ y.lo
       omega
      ·rw [mem_append, isx1_in, c2, mem_cons, mem_cons]
       constructor
       ·rintro (⟨h1, h2⟩ | ⟨h1, h2⟩)
        ·exact ⟨.inl h1, .inl h2⟩
        ·exact ⟨.inr h1, h2⟩
       ·rintro ⟨h1 | h1, h2⟩
        ·rcases h2 with h2 | ⟨x, hx, h2⟩
         ·exact .inl ⟨h1, h2⟩
         ·have := b2 x hx; omega
        ·exact .inr ⟨h1, h2⟩
      ·rcases List.mem_append.1 hx with hx | hx
       ·obtain ⟨rfl, h1⟩ := isx1_mem hx
        exact ⟨⟨r, by simp, by show r.lo ≤ max r.lo s.lo; omega⟩, ⟨s, by simp, by show s.lo ≤ max r.lo s.lo; omega⟩⟩
       ·obtain ⟨⟨r', hr', h2⟩, h3⟩ := c3 x hx
        exact ⟨⟨r', List.mem_cons_of_mem _ hr', h2⟩, h3⟩
     ·rename_i hlt
      obtain ⟨c1, c2, c3⟩ := ih (r :: a) b (by simp only [List.length_cons]; omega) ha' b3
      refine ⟨Can.append (isx1_can r s) c1 fun x hx y hy => ?_, fun v => ?_, fun x hx => ?_⟩
      ·obtain ⟨rfl, h1⟩ := isx1_mem hx
       obtain ⟨_, ⟨s', hs', h2⟩⟩ := c3 y hy
       have := b2 s' hs'
       show min r.hi s.hi + 2 ≤ y.lo
       omega
      ·rw [mem_append, isx1_in, c2, mem_cons, mem_cons]
       constructor
       ·rintro (⟨h1, h2⟩ | ⟨h1, h2⟩)
        ·exact ⟨.inl h1, .inl h2⟩
        ·exact ⟨h1, .inr h2⟩
       ·rintro ⟨h1, h2 | h2⟩
        ·rcases h1 with h1 | ⟨x, hx, h1⟩
         ·exact .inl ⟨h1, h2⟩
         ·have := a2 x hx; omega
        ·exact .inr ⟨h1, h2⟩
      ·rcases List.mem_append.1 hx with hx | hx
       ·obtain ⟨rfl, h1⟩ := isx1_mem hx
        exact ⟨⟨r, by simp, by show r.lo ≤ max r.lo s.lo; omega⟩, ⟨s, by simp, by show s.lo ≤ max r.lo s.lo; omega⟩⟩
       ·obtain ⟨h3, ⟨s', hs', h2⟩⟩ := c3 x hx
        exact ⟨h3, ⟨s', List.mem_cons_of_mem _ hs', h2⟩⟩
theorem isx_eq {a b : List TRng} (ha : Can a) (hb : Can b) : isx a b = isect a b := by
 obtain ⟨h1, h2, _⟩ := isx_ok _ a b (Nat.le_refl _) ha hb
 exact isect_uniq h1 h2
theorem isx_drop {a b : List TRng} {i j : Nat} (hi : i < a.length) (hj : j < b.length) : isx (a.drop i) (b.drop j) = isx1 a[i] b[j] ++ if a[i].hi < b[j].hi then isx (a.drop (i + 1)) (b.drop j) else isx (a.drop i) (b.drop (j + 1)) := by
 rw [List.drop_eq_getElem_cons hi, List.drop_eq_getElem_cons hj, isx_cons]
def chk (top : Int) (l : List TRng) (i : Nat) : Prop := (l.getD i default).lo ≤ (l.getD i default).hi ∧ (l.getD i default).hi ≤ top ∧ (0 < i → (l.getD (i - 1) default).hi + 2 ≤ (l.getD i default).lo)
instance (top : Int) (l : List TRng) (i : Nat) : Decidable (chk top l i) := by unfold chk; infer_instance
def ivalid (l : List TRng) (top : Int) : Bool := decide (∀ i, i < l.length → chk top l i)
theorem can_ivalid {l : List TRng} {top : Int} (h : ivalid l top = true) : Can l ∧ ∀ r ∈ l, r.hi ≤ top := by
 replace h := of_decide_eq_true h
 induction l with
 | nil => exact ⟨.nil, by simp⟩
 | cons r l ih =>
  have h0 := h 0 (by simp)
  have hs : ∀ i, i < l.length → chk top l i := by
   intro i hi
   obtain ⟨c1, c2, c3⟩ := h (i + 1) (by simp; omega)
   refine ⟨c1, c2, fun hp => ?_⟩
   obtain ⟨j, rfl⟩ : ∃ j, i = j + 1 := ⟨i - 1, by omega⟩
   have := c3 (by omega)
   rw [Nat.add_sub_cancel] at this ⊢
   exact this
  obtain ⟨i1, i2⟩ := ih hs
  refine ⟨?_, fun x hx => ?_⟩
  ·match l, h, i1 with
   | [], _, _ => exact .one h0.1
   | s :: l, h, i1 =>
    have h1 := (h 1 (by simp)).2.2 (by omega)
    change r.hi + 2 ≤ s.lo at h1
    refine .cons r _ h0.1 (fun x hx => ?_) i1
    cases i1 with
    | cons _ _ a1 a2 a3 =>
     rcases List.mem_cons.1 hx with rfl | hx
     ·exact h1
     ·have := a2 x hx; omega
  ·rcases List.mem_cons.1 hx with rfl | hx
   ·exact h0.2.1
   ·exact i2 x hx
def Asc (l : List Int) : Prop := l.Pairwise (· < ·)
def ins1 : List Int → Int → List Int
 | [], v => [v]
 | x :: l, v => if x < v then x :: ins1 l v else if x = v then x :: l else v :: x :: l
def ins (l : List Int) (v top : Int) : List Int := if v > top then l else ins1 l v
theorem ins1_mem : ∀ (l : List Int) (v x : Int), x ∈ ins1 l v ↔ x ∈ l ∨ x = v
 | [], v, x => by simp [ins1]
 | y :: l, v, x => by
  unfold ins1
  split
  ·simp only [List.mem_cons, ins1_mem l v x, or_assoc]
  ·split
   ·rename_i h; subst h; simp only [List.mem_cons]; constructor
    ·intro h; exact .inl h
    ·rintro (h | h); exact h; exact .inl h
   ·simp only [List.mem_cons]
    constructor
    ·rintro (h | h | h); exact .inr h; exact .inl (.inl h); exact .inl (.inr h)
    ·rintro ((h | h) | h); exact .inr (.inl h); exact .inr (.inr h); exact .inl h
theorem ins1_asc : ∀ {l : List Int} {v : Int}, Asc l → Asc (ins1 l v)
 | [], v, _ => List.pairwise_singleton _ _
 | y :: l, v, h => by
  unfold Asc at h ⊢
  rw [List.pairwise_cons] at h
  unfold ins1
  split
  ·rename_i h1
   refine List.pairwise_cons.2 ⟨fun x hx => ?_, ins1_asc h.2⟩
   rcases (ins1_mem l v x).1 hx with hx | hx
   ·exact h.1 x hx
   ·omega
  ·split
   ·exact List.pairwise_cons.2 h
   ·refine List.pairwise_cons.2 ⟨fun x hx => ?_, List.pairwise_cons.2 h⟩
    rcases List.mem_cons.1 hx with rfl | hx
    ·omega
    ·have := h.1 x hx; omega
theorem ins1_len (l : List Int) (v : Int) : (ins1 l v).length ≤ l.length + 1 := by
 induction l with
 | nil => simp [ins1]
 | cons y l ih =>
  unfold ins1
  split
  ·simp only [List.length_cons]; omega
  ·split
   ·simp
   ·simp
theorem ins_len (l : List Int) (v top : Int) : (ins l v top).length ≤ l.length + 1 := by
 unfold ins; split
 ·omega
 ·exact ins1_len l v
theorem ins1_at : ∀ (l : List Int) (v : Int) (k : Nat), k ≤ l.length → (∀ j, j < k → l.getD j 0 < v) → (k < l.length → ¬ l.getD k 0 < v) → ins1 l v = if k < l.length ∧ l.getD k 0 = v then l else l.take k ++ v :: l.drop k
 | [], v, k, hk, _, _ => by
  have : k = 0 := by simpa using hk
  subst this
  simp [ins1]
 | y :: l, v, 0, _, _, h2 => by
  have h := h2 (by simp)
  simp only [List.getD_cons_zero] at h
  unfold ins1
  rw [if_neg h]
  simp only [List.length_cons, Nat.zero_lt_succ, true_and, List.getD_cons_zero, List.take_zero, List.nil_append, List.drop_zero]
 | y :: l, v, k + 1, hk, h1, h2 => by
  have hy := h1 0 (by omega)
  simp only [List.getD_cons_zero] at hy
  have ih := ins1_at l v k (by simpa using hk) (fun j hj => by have := h1 (j + 1) (by omega); simpa using this) (fun h => by have := h2 (by simpa using h); simpa using this)
  unfold ins1
  rw [if_pos hy, ih]
  simp only [List.length_cons, Nat.add_lt_add_iff_right, List.getD_cons_succ, List.take_succ_cons, List.cons_append, List.drop_succ_cons]
  split <;> rfl
theorem ins_mem (l : List Int) (v top x : Int) (_h : ∀ y ∈ l, y ≤ top) : x ∈ ins l v top ↔ x ∈ l ∨ (x = v ∧ v ≤ top) := by
 unfold ins
 split
 ·rename_i h1
  constructor
  ·exact .inl
  ·rintro (h | ⟨rfl, h⟩)
   ·exact h
   ·omega
 ·rename_i h1
  rw [ins1_mem]
  constructor
  ·rintro (h | h)
   ·exact .inl h
   ·exact .inr ⟨h, by omega⟩
  ·rintro (h | h)
   ·exact .inl h
   ·exact .inr h.1
theorem ins_asc {l : List Int} {v top : Int} (h : Asc l) : Asc (ins l v top) := by
 unfold ins; split
 ·exact h
 ·exact ins1_asc h
def stepS (top : Int) (out : List Int) (r : TRng) : List Int := if r.lo ≤ r.hi then ins (ins out r.lo top) (r.hi + 1) top else out
def starts (l : List TRng) (top : Int) : List Int := l.foldl (stepS top) [0]
structure StOk (s : List Int) (top : Int) (l : List TRng) : Prop where
 asc : Asc s
 rng : ∀ x ∈ s, 0 ≤ x ∧ x ≤ top
 zero : (0 : Int) ∈ s
 lo : ∀ r ∈ l, r.lo ≤ r.hi → r.lo ≤ top → r.lo ∈ s
 hi : ∀ r ∈ l, r.lo ≤ r.hi → r.hi + 1 ≤ top → r.hi + 1 ∈ s
theorem StOk.step {s : List Int} {top : Int} {l : List TRng} (h : StOk s top l) {r : TRng} (hr : RIn r) : StOk (stepS top s r) top (l ++ [r]) := by
 unfold stepS
 unfold RIn at hr
 have h1 : ∀ y ∈ s, y ≤ top := fun y hy => (h.rng y hy).2
 split
 ·rename_i hle
  have m1 := fun x => ins_mem s r.lo top x h1
  have h2 : ∀ y ∈ ins s r.lo top, y ≤ top := fun y hy => by
   rcases (m1 y).1 hy with hy | hy
   ·exact h1 y hy
   ·omega
  have m2 := fun x => ins_mem (ins s r.lo top) (r.hi + 1) top x h2
  refine ⟨ins_asc (ins_asc h.asc), fun x hx => ?_, (m2 0).2 (.inl ((m1 0).2 (.inl h.zero))), fun q hq h3 h4 => ?_, fun q hq h3 h4 => ?_⟩
  ·rcases (m2 x).1 hx with hx | hx
   ·rcases (m1 x).1 hx with hx | hx
    ·exact h.rng x hx
    ·omega
   ·omega
  ·rcases List.mem_append.1 hq with hq | hq
   ·exact (m2 _).2 (.inl ((m1 _).2 (.inl (h.lo q hq h3 h4))))
   ·rw [List.mem_singleton] at hq; subst hq
    exact (m2 _).2 (.inl ((m1 _).2 (.inr ⟨rfl, h4⟩)))
  ·rcases List.mem_append.1 hq with hq | hq
   ·exact (m2 _).2 (.inl ((m1 _).2 (.inl (h.hi q hq h3 h4))))
   ·rw [List.mem_singleton] at hq; subst hq
    exact (m2 _).2 (.inr ⟨rfl, h4⟩)
 ·rename_i hle
  refine ⟨h.asc, h.rng, h.zero, fun q hq h3 h4 => ?_, fun q hq h3 h4 => ?_⟩
  ·rcases List.mem_append.1 hq with hq | hq
   ·exact h.lo q hq h3 h4
   ·rw [List.mem_singleton] at hq; subst hq; omega
  ·rcases List.mem_append.1 hq with hq | hq
   ·exact h.hi q hq h3 h4
   ·rw [List.mem_singleton] at hq; subst hq; omega
theorem starts_ok_go {top : Int} : ∀ (l pre : List TRng) (s : List Int), (∀ r ∈ l, RIn r) → StOk s top pre → StOk (l.foldl (stepS top) s) top (pre ++ l)
 | [], pre, s, _, h => by rw [List.append_nil]; exact h
 | r :: l, pre, s, hin, h => by
  have := starts_ok_go l (pre ++ [r]) (stepS top s r) (fun q hq => hin q (List.mem_cons_of_mem _ hq)) (h.step (hin r (List.mem_cons_self ..)))
  rw [List.append_assoc] at this
  exact this
theorem starts_ok {top : Int} (ht : 0 ≤ top) {l : List TRng} (h : ∀ r ∈ l, RIn r) : StOk (starts l top) top l := by
 have := starts_ok_go (top := top) l [] [0] h ⟨List.pairwise_singleton _ _, by simp; omega, by simp, by simp, by simp⟩
 rwa [List.nil_append] at this
theorem stepS_len (top : Int) (s : List Int) (r : TRng) : (stepS top s r).length ≤ s.length + 2 := by
 unfold stepS
 split
 ·have := ins_len (ins s r.lo top) (r.hi + 1) top
  have := ins_len s r.lo top
  omega
 ·omega
theorem starts_len_go (top : Int) : ∀ (l : List TRng) (s : List Int), (l.foldl (stepS top) s).length ≤ s.length + 2 * l.length
 | [], s => by simp
 | r :: l, s => by
  have := starts_len_go top l (stepS top s r)
  have := stepS_len top s r
  simp only [List.foldl_cons, List.length_cons]
  omega
theorem starts_len (l : List TRng) (top : Int) : (starts l top).length ≤ 1 + 2 * l.length := starts_len_go top l [0]
def memB (l : List TRng) (v : Int) : Bool := l.any fun r => decide (r.lo ≤ v) && decide (v ≤ r.hi)
theorem memB_iff (l : List TRng) (v : Int) : memB l v = true ↔ mem l v := by
 unfold memB mem
 rw [List.any_eq_true]
 constructor
 ·rintro ⟨r, hr, h⟩
  rw [Bool.and_eq_true, decide_eq_true_eq, decide_eq_true_eq] at h
  exact ⟨r, hr, h⟩
 ·rintro ⟨r, hr, h⟩
  exact ⟨r, hr, by rw [Bool.and_eq_true, decide_eq_true_eq, decide_eq_true_eq]; exact h⟩
def segEnd (s : List Int) (top : Int) (i : Nat) : Int := if i + 1 < s.length then s.getD (i + 1) 0 - 1 else top
def putSeg (out : List TRng) (x e : Int) : List TRng := if 0 < out.length ∧ (out.getD (out.length - 1) default).hi + 1 = x then out.take (out.length - 1) ++ [⟨(out.getD (out.length - 1) default).lo, e⟩] else out ++ [⟨x, e⟩]
def kst (φ : Int → Bool) (s : List Int) (top : Int) : Nat → List TRng
 | 0 => []
 | i + 1 => if φ (s.getD i 0) = true then putSeg (kst φ s top i) (s.getD i 0) (segEnd s top i) else kst φ s top i
theorem putSeg_ok {out : List TRng} {x e : Int} (hc : Can out) (hx : x ≤ e) (hl : ∀ r ∈ out, r.hi < x) : Can (putSeg out x e) ∧ (∀ v, mem (putSeg out x e) v ↔ mem out v ∨ (x ≤ v ∧ v ≤ e)) ∧ ∀ r ∈ putSeg out x e, r.hi ≤ e := by
 unfold putSeg
 rcases List.eq_nil_or_concat out with rfl | ⟨a, q, rfl⟩
 ·rw [if_neg (by simp)]
  refine ⟨.one hx, fun v => ?_, by simp⟩
  simp only [List.nil_append]
  rw [mem_cons]
  simp [mem_nil]
 ·simp only [List.concat_eq_append] at *
  obtain ⟨ca, hq, hs⟩ := hc.snoc_inv
  have hg : (a ++ [q]).getD ((a ++ [q]).length - 1) default = q := by simp [List.getD]
  rw [hg]
  have hqx := hl q (by simp)
  split
  ·rename_i h
   rw [show (a ++ [q]).take ((a ++ [q]).length - 1) = a by simp]
   refine ⟨ca.append (.one (by dsimp only; omega)) fun y hy z hz => by rw [List.mem_singleton] at hz; subst hz; exact hs y hy, fun v => ?_, fun r hr => ?_⟩
   ·rw [mem_snoc, mem_snoc]
    dsimp only
    constructor
    ·rintro (h1 | h1)
     ·exact .inl (.inl h1)
     ·by_cases h2 : v ≤ q.hi
      ·exact .inl (.inr ⟨h1.1, h2⟩)
      ·exact .inr ⟨by omega, h1.2⟩
    ·rintro ((h1 | h1) | h1)
     ·exact .inl h1
     ·exact .inr ⟨h1.1, by omega⟩
     ·exact .inr ⟨by omega, h1.2⟩
   ·rcases List.mem_append.1 hr with hr | hr
    ·have := hl r (by simp [hr]); omega
    ·rw [List.mem_singleton] at hr; subst hr; exact Int.le_refl _
  ·rename_i h
   refine ⟨hc.append (.one hx) fun y hy z hz => ?_, fun v => mem_snoc, fun r hr => ?_⟩
   ·rw [List.mem_singleton] at hz; subst hz
    dsimp only
    rcases List.mem_append.1 hy with hy | hy
    ·have := hs y hy
     omega
    ·rw [List.mem_singleton] at hy; subst hy
     have : ¬ y.hi + 1 = x := fun e => h ⟨by simp, e⟩
     omega
   ·rcases List.mem_append.1 hr with hr | hr
    ·have := hl r hr; omega
    ·rw [List.mem_singleton] at hr; subst hr; exact Int.le_refl _
theorem asc_getD {s : List Int} (h : Asc s) {i j : Nat} (hij : i < j) (hj : j < s.length) : s.getD i 0 < s.getD j 0 := by
 have := List.pairwise_iff_getElem.1 h i j (by omega) hj hij
 rw [List.getD, List.getD, List.getElem?_eq_getElem (by omega), List.getElem?_eq_getElem hj]
 exact this
theorem getD_mem' {s : List Int} {i : Nat} (h : i < s.length) : s.getD i 0 ∈ s := by
 rw [List.getD, List.getElem?_eq_getElem h]; exact List.getElem_mem h
theorem seg_free {s : List Int} {top : Int} (ha : Asc s) (_hr : ∀ x ∈ s, 0 ≤ x ∧ x ≤ top) {i : Nat} (hi : i < s.length) {v : Int} (h1 : s.getD i 0 < v) (h2 : v ≤ segEnd s top i) : v ∉ s := by
 intro hv
 obtain ⟨j, hj⟩ := List.mem_iff_getElem?.1 hv
 have hjl := (List.getElem?_eq_some_iff.1 hj).1
 have hjv : s.getD j 0 = v := by rw [List.getD, hj]; rfl
 unfold segEnd at h2
 by_cases hji : j ≤ i
 ·rcases Nat.lt_or_eq_of_le hji with h | h
  ·have := asc_getD ha h hi; omega
  ·subst h; omega
 ·rw [if_pos (by omega)] at h2
  by_cases hj1 : j = i + 1
  ·subst hj1; omega
  ·have := asc_getD ha (show i + 1 < j by omega) hjl
   omega
theorem seg_const {s : List Int} {top : Int} {l : List TRng} (h : StOk s top l) {a : List TRng} (hsub : ∀ r ∈ a, r ∈ l) {i : Nat} (hi : i < s.length) {v : Int} (h1 : s.getD i 0 ≤ v) (h2 : v ≤ segEnd s top i) : memB a v = memB a (s.getD i 0) := by
 have hx := h.rng _ (getD_mem' hi)
 have hvt : v ≤ top := by
  unfold segEnd at h2
  split at h2
  ·rename_i h3
   have := h.rng _ (getD_mem' h3)
   omega
  ·exact h2
 have hfree : ∀ u, s.getD i 0 < u → u ≤ v → u ∉ s := fun u g1 g2 => seg_free h.asc h.rng hi g1 (by omega)
 rw [Bool.eq_iff_iff, memB_iff, memB_iff]
 constructor
 ·rintro ⟨r, hr, g1, g2⟩
  refine ⟨r, hr, ?_, ?_⟩
  ·by_cases g3 : r.lo ≤ s.getD i 0
   ·exact g3
   ·exact (hfree r.lo (by omega) g1 (h.lo r (hsub r hr) (by omega) (by omega))).elim
  ·omega
 ·rintro ⟨r, hr, g1, g2⟩
  refine ⟨r, hr, by omega, ?_⟩
  by_cases g3 : v ≤ r.hi
  ·exact g3
  ·exact (hfree (r.hi + 1) (by omega) (by omega) (h.hi r (hsub r hr) (by omega) (by omega))).elim
theorem segEnd_ge {s : List Int} {top : Int} {l : List TRng} (h : StOk s top l) {i : Nat} (hi : i < s.length) : s.getD i 0 ≤ segEnd s top i ∧ segEnd s top i ≤ top := by
 unfold segEnd
 split
 ·rename_i h1
  have := asc_getD h.asc (show i < i + 1 by omega) h1
  have := (h.rng _ (getD_mem' h1)).2
  omega
 ·exact ⟨(h.rng _ (getD_mem' hi)).2, Int.le_refl _⟩
def segAt (s : List Int) (top : Int) (i : Nat) : Int := if i < s.length then s.getD i 0 else top + 1
theorem kst_ok {s : List Int} {top : Int} {l : List TRng} (h : StOk s top l) (φ : Int → Bool) (hφ : ∀ i, i < s.length → ∀ v, s.getD i 0 ≤ v → v ≤ segEnd s top i → φ v = φ (s.getD i 0)) :
  ∀ i, i ≤ s.length → Can (kst φ s top i) ∧ (∀ v, mem (kst φ s top i) v ↔ (0 ≤ v ∧ v < segAt s top i) ∧ φ v = true) ∧ ∀ r ∈ kst φ s top i, r.hi < segAt s top i
 | 0, _ => by
  have h0 : segAt s top 0 = 0 := by
   unfold segAt
   rw [if_pos (List.length_pos_of_mem h.zero)]
   obtain ⟨j, hj⟩ := List.mem_iff_getElem?.1 h.zero
   have hjl := (List.getElem?_eq_some_iff.1 hj).1
   have hjv : s.getD j 0 = 0 := by rw [List.getD, hj]; rfl
   rcases Nat.eq_zero_or_pos j with rfl | hp
   ·exact hjv
   ·have := asc_getD h.asc hp hjl
    have := (h.rng _ (getD_mem' (show 0 < s.length by omega))).1
    omega
  refine ⟨.nil, fun v => ?_, by simp [kst]⟩
  rw [h0]
  constructor
  ·intro hm; exact (mem_nil v hm).elim
  ·rintro ⟨⟨h1, h2⟩, _⟩; omega
 | i + 1, hi => by
  obtain ⟨h1, h2, h3⟩ := kst_ok h φ hφ i (by omega)
  have hil : i < s.length := by omega
  have hge := segEnd_ge h hil
  have hx0 := (h.rng _ (getD_mem' hil)).1
  have e0 : segAt s top i = s.getD i 0 := by unfold segAt; rw [if_pos hil]
  have e1 : segAt s top (i + 1) = segEnd s top i + 1 := by unfold segAt segEnd; split <;> omega
  rw [e0] at h2 h3
  rw [e1]
  unfold kst
  split
  ·rename_i hp
   obtain ⟨g1, g2, g3⟩ := putSeg_ok h1 hge.1 h3
   refine ⟨g1, fun v => ?_, fun r hr => by have := g3 r hr; omega⟩
   rw [g2, h2]
   constructor
   ·rintro (⟨q1, q2⟩ | q)
    ·exact ⟨⟨q1.1, by omega⟩, q2⟩
    ·exact ⟨⟨by omega, by omega⟩, by rw [hφ i hil v q.1 q.2]; exact hp⟩
   ·rintro ⟨q1, q2⟩
    by_cases hv : v < s.getD i 0
    ·exact .inl ⟨⟨q1.1, hv⟩, q2⟩
    ·exact .inr ⟨by omega, by omega⟩
  ·rename_i hp
   refine ⟨h1, fun v => ?_, fun r hr => by have := h3 r hr; omega⟩
   rw [h2]
   constructor
   ·rintro ⟨q1, q2⟩; exact ⟨⟨q1.1, by omega⟩, q2⟩
   ·rintro ⟨q1, q2⟩
    by_cases hv : v < s.getD i 0
    ·exact ⟨⟨q1.1, hv⟩, q2⟩
    ·rw [hφ i hil v (by omega) (by omega)] at q2
     exact absurd q2 hp
def phi (c : Int) (a b : List TRng) (v : Int) : Bool := if c = 1 then memB a v && memB b v else memB a v || memB b v
def keepL (c : Int) (a b : List TRng) (top : Int) : List TRng := kst (phi c a b) (starts (a ++ b) top) top (starts (a ++ b) top).length
theorem keepL_ok (c : Int) {a b : List TRng} {top : Int} (ht : 0 ≤ top) (ha : ∀ r ∈ a, RIn r) (hb : ∀ r ∈ b, RIn r) : Can (keepL c a b top) ∧ ∀ v, mem (keepL c a b top) v ↔ (0 ≤ v ∧ v ≤ top) ∧ phi c a b v = true := by
 have hs : StOk (starts (a ++ b) top) top (a ++ b) := starts_ok ht fun r hr => by
  rcases List.mem_append.1 hr with hr | hr
  ·exact ha r hr
  ·exact hb r hr
 obtain ⟨h1, h2, _⟩ := kst_ok hs (phi c a b) (fun i hi v g1 g2 => by
  unfold phi
  rw [seg_const hs (fun r hr => List.mem_append_left _ hr) hi g1 g2, seg_const hs (fun r hr => List.mem_append_right _ hr) hi g1 g2]) _ (Nat.le_refl _)
 refine ⟨h1, fun v => ?_⟩
 unfold keepL
 rw [h2]
 have : segAt (starts (a ++ b) top) top (starts (a ++ b) top).length = top + 1 := by unfold segAt; rw [if_neg (by omega)]
 rw [this]
 constructor
 ·rintro ⟨q1, q2⟩; exact ⟨by omega, q2⟩
 ·rintro ⟨q1, q2⟩; exact ⟨by omega, q2⟩
theorem keepL_isect {a b : List TRng} (ha : ∀ r ∈ a, RIn r) (hb : ∀ r ∈ b, RIn r) : keepL 1 a b 4294967295 = isect a b := by
 obtain ⟨h1, h2⟩ := keepL_ok 1 (top := 4294967295) (by omega) ha hb
 refine isect_uniq h1 fun v => ?_
 rw [h2]
 unfold phi
 rw [if_pos rfl, Bool.and_eq_true, memB_iff, memB_iff]
 constructor
 ·exact fun h => h.2
 ·intro h
  refine ⟨?_, h⟩
  obtain ⟨r, hr, g1, g2⟩ := h.1
  have := ha r hr
  unfold RIn at this
  omega
theorem keepL_canon {a : List TRng} (ha : ∀ r ∈ a, RIn r) : keepL 0 a [] 4294967295 = canon a := by
 obtain ⟨h1, h2⟩ := keepL_ok 0 (top := 4294967295) (b := []) (by omega) ha (by simp)
 refine canon_uniq h1 fun v => ?_
 rw [h2]
 unfold phi
 rw [if_neg (by decide), Bool.or_eq_true, memB_iff, memB_iff]
 constructor
 ·rintro ⟨_, h | h⟩
  ·exact h
  ·exact (mem_nil v h).elim
 ·intro h
  refine ⟨?_, .inl h⟩
  obtain ⟨r, hr, g1, g2⟩ := h
  have := ha r hr
  unfold RIn at this
  omega

end
end Go.Proofs.YtkaobkjcjodffaaGreatDoor