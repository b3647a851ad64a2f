/-
 Lists of ranges: canonical ones with the same members are equal; merging a sorted list makes one.
 Layings of library functions at this seat: slices.SortFunc and slices.Grow at ranges; printed by a program of mine.
 Sorting a row of ranges by where they begin.
-/
import Derived.Test.YtkaobkjcjodffaaGreatDoorTB6
import Derived.Shelf.SlSortCmp.WholeK
import Derived.Shelf.Spec.SlicesGrow
import Derived.Test.YtkaobkjcjodffaaGreatDoorProg
import Derived.WalkKit
import Derived.Test.YtkaobkjcjodffaaGreatDoorSPwFrz
import Derived.Test.YtkaobkjcjodffaaGreatDoorSPwFork
import Derived.Test.YtkaobkjcjodffaaGreatDoorTTab
import Derived.Test.YtkaobkjcjodffaaGreatDoorSPwAuto
import Derived.Test.YtkaobkjcjodffaaGreatDoorSPwGlob
set_option maxHeartbeats 20000000
set_option maxRecDepth 100000
namespace Go.Proofs.YtkaobkjcjodffaaGreatDoor
open Go Go.Pw
def mem (l : List TRng) (v : Int) : Prop := ∃ r ∈ l, r.lo ≤ v ∧ v ≤ r.hi
theorem mem_nil (v : Int) : ¬ mem [] v := by rintro ⟨r, h, _⟩; cases h
theorem mem_cons {r : TRng} {l : List TRng} {v : Int} : mem (r :: l) v ↔ (r.lo ≤ v ∧ v ≤ r.hi) ∨ mem l v := by
 constructor
 ·rintro ⟨x, hx, h⟩
  rcases List.mem_cons.1 hx with rfl | hx
  ·exact .inl h
  ·exact .inr ⟨x, hx, h⟩
 ·rintro (h | ⟨x, hx, h⟩)
  ·exact ⟨r, List.mem_cons_self .., h⟩
  ·exact ⟨x, List.mem_cons_of_mem _ hx, h⟩
theorem mem_append {a b : List TRng} {v : Int} : mem (a ++ b) v ↔ mem a v ∨ mem b v := by
 constructor
 ·rintro ⟨x, hx, h⟩
  rcases List.mem_append.1 hx with hx | hx
  ·exact .inl ⟨x, hx, h⟩
  ·exact .inr ⟨x, hx, h⟩
 ·rintro (⟨x, hx, h⟩ | ⟨x, hx, h⟩)
  ·exact ⟨x, List.mem_append_left _ hx, h⟩
  ·exact ⟨x, List.mem_append_right _ hx, h⟩
theorem mem_snoc {r : TRng} {l : List TRng} {v : Int} : mem (l ++ [r]) v ↔ mem l v ∨ (r.lo ≤ v ∧ v ≤ r.hi) := by
 rw [mem_append, mem_cons]; simp [mem_nil]
inductive Can : List TRng → Prop
 | nil : Can []
 | cons (r : TRng) (l : List TRng) : r.lo ≤ r.hi → (∀ x ∈ l, r.hi + 2 ≤ x.lo) → Can l → Can (r :: l)
theorem Can.low {r : TRng} {l : List TRng} (h : Can (r :: l)) {v : Int} (hv : mem (r :: l) v) : r.lo ≤ v := by
 cases h with
 | cons _ _ h1 h2 h3 =>
  rcases mem_cons.1 hv with h | ⟨x, hx, h⟩
  ·exact h.1
  ·have := h2 x hx; omega
theorem Can.uniq : ∀ {a b : List TRng}, Can a → Can b → (∀ v, mem a v ↔ mem b v) → a = b
 | [], [], _, _, _ => rfl
 | [], r :: l, _, hb, h => by
  cases hb with
  | cons _ _ h1 h2 h3 => exact absurd ((h r.lo).2 (mem_cons.2 (.inl ⟨Int.le_refl _, h1⟩))) (mem_nil _)
 | r :: l, [], ha, _, h => by
  cases ha with
  | cons _ _ h1 h2 h3 => exact absurd ((h r.lo).1 (mem_cons.2 (.inl ⟨Int.le_refl _, h1⟩))) (mem_nil _)
 | r :: l, s :: m, ha, hb, h => by
  have ha' := ha
  have hb' := hb
  cases ha with
  | cons _ _ a1 a2 a3 =>
   cases hb with
   | cons _ _ b1 b2 b3 =>
    have e1 : r.lo = s.lo := by
     have x1 := hb'.low ((h r.lo).1 (mem_cons.2 (.inl ⟨Int.le_refl _, a1⟩)))
     have x2 := ha'.low ((h s.lo).2 (mem_cons.2 (.inl ⟨Int.le_refl _, b1⟩)))
     omega
    have gap : ∀ {r : TRng} {l : List TRng}, (∀ x ∈ l, r.hi + 2 ≤ x.lo) → ¬ mem (r :: l) (r.hi + 1) := by
     intro r l hg hm
     rcases mem_cons.1 hm with hm | ⟨x, hx, hm⟩
     ·omega
     ·have := hg x hx; omega
    have e2 : r.hi = s.hi := by
     rcases Int.lt_trichotomy r.hi s.hi with h4 | h4 | h4
     ·exact absurd ((h (r.hi + 1)).2 (mem_cons.2 (.inl ⟨by omega, by omega⟩))) (gap a2)
     ·exact h4
     ·exact absurd ((h (s.hi + 1)).1 (mem_cons.2 (.inl ⟨by omega, by omega⟩))) (gap b2)
    have e : r = s := by cases r; cases s; simp_all
    subst e
    have : l = m := Can.uniq a3 b3 fun v => by
     have hv := h v
     rw [mem_cons, mem_cons] at hv
     constructor
     ·rintro ⟨x, hx, h5⟩
      rcases hv.1 (.inr ⟨x, hx, h5⟩) with h6 | h6
      ·have := a2 x hx; omega
      ·exact h6
     ·rintro ⟨x, hx, h5⟩
      rcases hv.2 (.inr ⟨x, hx, h5⟩) with h6 | h6
      ·have := b2 x hx; omega
      ·exact h6
    rw [this]
theorem Can.append : ∀ {a b : List TRng}, Can a → Can b → (∀ x ∈ a, ∀ y ∈ b, x.hi + 2 ≤ y.lo) → Can (a ++ b)
 | [], _, _, hb, _ => hb
 | r :: l, b, ha, hb, h => by
  cases ha with
  | cons _ _ a1 a2 a3 =>
   refine .cons r (l ++ b) a1 (fun x hx => ?_) (Can.append a3 hb fun x hx => h x (List.mem_cons_of_mem _ hx))
   rcases List.mem_append.1 hx with hx | hx
   ·exact a2 x hx
   ·exact h r (List.mem_cons_self ..) x hx
theorem Can.one {r : TRng} (h : r.lo ≤ r.hi) : Can [r] := .cons r [] h (by simp) .nil
theorem Can.left : ∀ {a b : List TRng}, Can (a ++ b) → Can a
 | [], _, _ => .nil
 | r :: l, b, h => by
  cases h with
  | cons _ _ a1 a2 a3 => exact .cons r l a1 (fun x hx => a2 x (List.mem_append_left _ hx)) (Can.left a3)
theorem Can.snoc_inv {a : List TRng} {r : TRng} (h : Can (a ++ [r])) : Can a ∧ r.lo ≤ r.hi ∧ ∀ x ∈ a, x.hi + 2 ≤ r.lo := by
 induction a with
 | nil => cases h with | cons _ _ a1 _ _ => exact ⟨.nil, a1, by simp⟩
 | cons s l ih =>
  cases h with
  | cons _ _ a1 a2 a3 =>
   obtain ⟨h1, h2, h3⟩ := ih a3
   refine ⟨.cons s l a1 (fun x hx => a2 x (List.mem_append_left _ hx)) h1, h2, fun x hx => ?_⟩
   rcases List.mem_cons.1 hx with rfl | hx
   ·exact a2 r (by simp)
   ·exact h3 x hx
def mstep (out : List TRng) (r : TRng) : List TRng :=
 match out.getLast? with
 | some q => if r.lo ≤ q.hi + 1 then out.dropLast ++ [⟨q.lo, max q.hi r.hi⟩] else out ++ [r]
 | none => [r]
theorem mstep_nil (r : TRng) : mstep [] r = [r] := rfl
theorem mstep_snoc (a : List TRng) (q r : TRng) : mstep (a ++ [q]) r = if r.lo ≤ q.hi + 1 then a ++ [⟨q.lo, max q.hi r.hi⟩] else a ++ [q] ++ [r] := by
 unfold mstep
 rw [List.getLast?_append]
 simp
theorem mstep_ok {out : List TRng} {r : TRng} (h : Can out) (hr : r.lo ≤ r.hi) (hs : ∀ x ∈ out, x.lo ≤ r.lo) :
  Can (mstep out r) ∧ (∀ v, mem (mstep out r) v ↔ mem out v ∨ (r.lo ≤ v ∧ v ≤ r.hi)) ∧ ∀ x ∈ mstep out r, x.lo ≤ r.lo := by
 rcases List.eq_nil_or_concat out with rfl | ⟨a, q, rfl⟩
 ·rw [mstep_nil]
  exact ⟨.one hr, fun v => by rw [mem_cons]; simp [mem_nil], by simp⟩
 ·rw [List.concat_eq_append] at *
  obtain ⟨h1, h2, h3⟩ := h.snoc_inv
  have hq := hs q (by simp)
  rw [mstep_snoc]
  split
  ·rename_i hle
   refine ⟨Can.append h1 (.one (by show q.lo ≤ max q.hi r.hi; omega)) (fun x hx y hy => by rw [List.mem_singleton] at hy; subst hy; exact h3 x hx), fun v => ?_, fun x hx => ?_⟩
   ·rw [mem_snoc, mem_snoc]
    show mem a v ∨ (q.lo ≤ v ∧ v ≤ max q.hi r.hi) ↔ _
    constructor
    ·rintro (h | h)
     ·exact .inl (.inl h)
     ·by_cases hv : v ≤ q.hi
      ·exact .inl (.inr ⟨h.1, hv⟩)
      ·exact .inr (by omega)
    ·rintro ((h | h) | h)
     ·exact .inl h
     ·exact .inr (by omega)
     ·exact .inr (by omega)
   ·rcases List.mem_append.1 hx with hx | hx
    ·exact hs x (by simp [hx])
    ·rw [List.mem_singleton] at hx; subst hx; exact hq
  ·rename_i hgt
   refine ⟨Can.append h (.one hr) (fun x hx y hy => ?_), fun v => mem_snoc, fun x hx => ?_⟩
   ·rw [List.mem_singleton] at hy; subst hy
    rcases List.mem_append.1 hx with hx | hx
    ·have := h3 x hx; omega
    ·rw [List.mem_singleton] at hx; subst hx; omega
   ·rcases List.mem_append.1 hx with hx | hx
    ·exact hs x hx
    ·rw [List.mem_singleton] at hx; subst hx; exact Int.le_refl _
def mergeAll (d : List TRng) : List TRng := d.foldl mstep []
theorem mergeAll_ok {d : List TRng} (hd : d.Pairwise fun a b => a.lo ≤ b.lo) (hn : ∀ r ∈ d, r.lo ≤ r.hi) : Can (mergeAll d) ∧ ∀ v, mem (mergeAll d) v ↔ mem d v := by
 have key : ∀ (d out : List TRng), (d.Pairwise fun a b => a.lo ≤ b.lo) → (∀ r ∈ d, r.lo ≤ r.hi) → Can out → (∀ x ∈ out, ∀ y ∈ d, x.lo ≤ y.lo) → Can (d.foldl mstep out) ∧ ∀ v, mem (d.foldl mstep out) v ↔ mem out v ∨ mem d v := by
  intro d
  induction d with
  | nil => intro out _ _ h _; exact ⟨h, fun v => by simp [mem_nil]⟩
  | cons r d ih =>
   intro out hp hn h hs
   rw [List.pairwise_cons] at hp
   obtain ⟨h1, h2, h3⟩ := mstep_ok h (hn r (by simp)) (fun x hx => hs x hx r (by simp))
   obtain ⟨h4, h5⟩ := ih (mstep out r) hp.2 (fun x hx => hn x (by simp [hx])) h1 (fun x hx y hy => by have := h3 x hx; have := hp.1 y hy; omega)
   refine ⟨h4, fun v => ?_⟩
   rw [List.foldl_cons, h5, h2, mem_cons, or_assoc]
 obtain ⟨h1, h2⟩ := key d [] hd hn .nil (by simp)
 exact ⟨h1, fun v => by rw [mergeAll, h2]; simp [mem_nil]⟩
def canon (l : List TRng) : List TRng := mergeAll ((l.filter fun r => decide (r.lo ≤ r.hi)).mergeSort fun a b => decide (a.lo ≤ b.lo))
theorem mem_filter {l : List TRng} {v : Int} : mem (l.filter fun r => decide (r.lo ≤ r.hi)) v ↔ mem l v := by
 constructor
 ·rintro ⟨r, hr, h⟩
  exact ⟨r, (List.mem_filter.1 hr).1, h⟩
 ·rintro ⟨r, hr, h⟩
  exact ⟨r, List.mem_filter.2 ⟨hr, by simp; omega⟩, h⟩
theorem mem_perm {a b : List TRng} (h : a.Perm b) (v : Int) : mem a v ↔ mem b v :=
 ⟨fun ⟨r, hr, h1⟩ => ⟨r, h.mem_iff.1 hr, h1⟩, fun ⟨r, hr, h1⟩ => ⟨r, h.mem_iff.2 hr, h1⟩⟩
theorem canon_ok (l : List TRng) : Can (canon l) ∧ ∀ v, mem (canon l) v ↔ mem l v := by
 have hp := List.mergeSort_perm (l.filter fun r => decide (r.lo ≤ r.hi)) (fun a b => decide (a.lo ≤ b.lo))
 obtain ⟨h1, h2⟩ := mergeAll_ok (d := (l.filter fun r : TRng => decide (r.lo ≤ r.hi)).mergeSort fun a b : TRng => decide (a.lo ≤ b.lo))
  ((List.pairwise_mergeSort (le := fun a b : TRng => decide (a.lo ≤ b.lo)) (fun a b c h1 h2 => by simp only [decide_eq_true_eq] at *; omega) (fun a b => by simp only [Bool.or_eq_true, decide_eq_true_eq]; omega) _).imp fun h => by simpa using h)
  (fun r hr => by have := List.mem_filter.1 (hp.mem_iff.1 hr); simpa using this.2)
 exact ⟨h1, fun v => by rw [canon, h2, mem_perm hp, mem_filter]⟩
theorem canon_uniq {a l : List TRng} (h : Can a) (hm : ∀ v, mem a v ↔ mem l v) : a = canon l :=
 h.uniq (canon_ok l).1 fun v => (hm v).trans ((canon_ok l).2 v).symm
theorem merge_canon {d l : List TRng} (hp : d.Perm (l.filter fun r => decide (r.lo ≤ r.hi))) (hd : d.Pairwise fun a b => a.lo ≤ b.lo) : mergeAll d = canon l := by
 obtain ⟨h1, h2⟩ := mergeAll_ok hd (fun r hr => by have := List.mem_filter.1 (hp.mem_iff.1 hr); simpa using this.2)
 exact canon_uniq h1 fun v => by rw [h2, mem_perm hp, mem_filter]
theorem canon_self {l : List TRng} (h : Can l) : canon l = l := (canon_uniq h fun _ => Iff.rfl).symm
def isect (a b : List TRng) : List TRng := canon (a.flatMap fun r => b.map fun s => ⟨max r.lo s.lo, min r.hi s.hi⟩)
theorem isect_mem (a b : List TRng) (v : Int) : mem (isect a b) v ↔ mem a v ∧ mem b v := by
 unfold isect
 rw [(canon_ok _).2]
 constructor
 ·rintro ⟨x, hx, h⟩
  simp only [List.mem_flatMap, List.mem_map] at hx
  obtain ⟨r, hr, s, hs, rfl⟩ := hx
  dsimp only at h
  exact ⟨⟨r, hr, by omega⟩, ⟨s, hs, by omega⟩⟩
 ·rintro ⟨⟨r, hr, h⟩, ⟨s, hs, h'⟩⟩
  exact ⟨⟨max r.lo s.lo, min r.hi s.hi⟩, by simp only [List.mem_flatMap, List.mem_map]; exact ⟨r, hr, s, hs, rfl⟩, by show max r.lo s.lo ≤ v; omega, by show v ≤ min r.hi s.hi; omega⟩
theorem isect_uniq {a b c : List TRng} (h : Can c) (hm : ∀ v, mem c v ↔ mem a v ∧ mem b v) : c = isect a b :=
 h.uniq (canon_ok _).1 fun v => (hm v).trans (isect_mem a b v).symm
end Go.Proofs.YtkaobkjcjodffaaGreatDoor
namespace Go.Proofs
open Go.Shelf
def Tryz.laysSort_ren : Go.Shelf.Ren := ⟨fun | 6 => 204 | 14 => 222 | 15 => 223 | 20 => 231 | 21 => 232 | 22 => 233 | 23 => 234 | 24 => 235 | 25 => 236 | 26 => 237 | 27 => 238 | 28 => 239 | 29 => 212 | 46 => 242 | 47 => 243 | 48 => 244 | 49 => 245 | 50 => 246 | 57 => 247 | n => n, fun | 0 => 0 | 3 => 3 | 4 => 4 | 5 => 5 | 9 => 9 | 22 => 74 | 24 => 85 | 25 => 243 | 39 => 115 | 45 => 263 | 46 => 264 | 50 => 152 | 53 => 79 | 55 => 138 | 66 => 272 | 70 => 276 | 76 => 278 | 77 => 177 | n => n, fun n => n⟩
theorem Tryz.laysSort : Go.Proofs.SlLaysF0.n6 Tryz.prog Tryz.laysSort_ren := {
 mixed := by kernel_rfl
 f6 := ⟨Tryz.f204.name, by kernel_rfl, Tryz.func204.trans (congrArg some (by kernel_rfl))⟩
 f14 := ⟨Tryz.f222.name, by kernel_rfl, Tryz.func222.trans (congrArg some (by kernel_rfl))⟩
 f15 := Tryz.func223.trans (congrArg some (by kernel_rfl))
 f20 := ⟨Tryz.f231.name, by kernel_rfl, Tryz.func231.trans (congrArg some (by kernel_rfl))⟩
 f21 := ⟨Tryz.f232.name, by kernel_rfl, Tryz.func232.trans (congrArg some (by kernel_rfl))⟩
 f22 := ⟨Tryz.f233.name, by kernel_rfl, Tryz.func233.trans (congrArg some (by kernel_rfl))⟩
 f23 := ⟨Tryz.f234.name, by kernel_rfl, Tryz.func234.trans (congrArg some (by kernel_rfl))⟩
 f24 := ⟨Tryz.f235.name, by kernel_rfl, Tryz.func235.trans (congrArg some (by kernel_rfl))⟩
 f25 := ⟨Tryz.f236.name, by kernel_rfl, Tryz.func236.trans (congrArg some (by kernel_rfl))⟩
 f26 := ⟨Tryz.f237.name, by kernel_rfl, Tryz.func237.trans (congrArg some (by kernel_rfl))⟩
 f27 := ⟨Tryz.f238.name, by kernel_rfl, Tryz.func238.trans (congrArg some (by kernel_rfl))⟩
 f28 := Tryz.func239.trans (congrArg some (by kernel_rfl))
 f29 := Tryz.func212.trans (congrArg some (by kernel_rfl))
 f46 := ⟨Tryz.f242.name, by kernel_rfl, Tryz.func242.trans (congrArg some (by kernel_rfl))⟩
 f47 := Tryz.func243.trans (congrArg some (by kernel_rfl))
 f48 := Tryz.func244.trans (congrArg some (by kernel_rfl))
 f49 := ⟨Tryz.f245.name, by kernel_rfl, Tryz.func245.trans (congrArg some (by kernel_rfl))⟩
 f50 := ⟨Tryz.f246.name, by kernel_rfl, Tryz.func246.trans (congrArg some (by kernel_rfl))⟩
 f57 := ⟨Tryz.f247.name, by kernel_rfl, Tryz.func247.trans (congrArg some (by kernel_rfl))⟩
 t0 := Tryz.underlying0
 a0 := Tryz.isAgg0
 z0 := Tryz.sizeOf0
 v0 := Tryz.zeroValue0
 t3 := Tryz.underlying3
 a3 := Tryz.isAgg3
 z3 := Tryz.sizeOf3
 v3 := Tryz.zeroValue3
 t4 := Tryz.underlying4
 a4 := Tryz.isAgg4
 z4 := Tryz.sizeOf4
 v4 := Tryz.zeroValue4
 t5 := Tryz.underlying5
 a5 := Tryz.isAgg5
 z5 := Tryz.sizeOf5
 v5 := Tryz.zeroValue5
 t9 := Tryz.underlying9
 a9 := Tryz.isAgg9
 z9 := Tryz.sizeOf9
 v9 := Tryz.zeroValue9
 t22 := Tryz.underlying74
 a22 := Tryz.isAgg74
 z22 := Tryz.sizeOf74
 v22 := Tryz.zeroValue74
 t25 := Tryz.underlying243
 a25 := Tryz.isAgg243
 z25 := Tryz.sizeOf243
 v25 := Tryz.zeroValue243
 t39 := Tryz.underlying115
 a39 := Tryz.isAgg115
 z39 := Tryz.sizeOf115
 v39 := Tryz.zeroValue115
 t45 := Tryz.underlying263
 a45 := Tryz.isAgg263
 z45 := Tryz.sizeOf263
 v45 := Tryz.zeroValue263
 t46 := Tryz.underlying264
 a46 := Tryz.isAgg264
 z46 := Tryz.sizeOf264
 v46 := Tryz.zeroValue264
 t50 := Tryz.underlying152
 a50 := Tryz.isAgg152
 z50 := Tryz.sizeOf152
 v50 := Tryz.zeroValue152
 t53 := Tryz.underlying79
 a53 := Tryz.isAgg79
 z53 := Tryz.sizeOf79
 v53 := Tryz.zeroValue79
 t55 := Tryz.underlying138
 a55 := Tryz.isAgg138
 z55 := Tryz.sizeOf138
 v55 := Tryz.zeroValue138
 t66 := Tryz.underlying272
 a66 := Tryz.isAgg272
 z66 := Tryz.sizeOf272
 v66 := Tryz.zeroValue272
 t70 := Tryz.underlying276
 a70 := Tryz.isAgg276
 z70 := Tryz.sizeOf276
 v70 := Tryz.zeroValue276
 t76 := Tryz.underlying278
 a76 := Tryz.isAgg278
 z76 := Tryz.sizeOf278
 v76 := Tryz.zeroValue278
 t77 := Tryz.underlying177
 a77 := Tryz.isAgg177
 z77 := Tryz.sizeOf177
 v77 := Tryz.zeroValue177
}
def Tryz.laysGrow_ren : Go.Shelf.Ren := ⟨fun | 4 => 207 | n => n, fun | 0 => 0 | 3 => 3 | 4 => 4 | 9 => 9 | 20 => 20 | 22 => 74 | 25 => 85 | n => n, fun n => n⟩
theorem Tryz.laysGrow : Go.Proofs.Lays8.n4 Tryz.prog Tryz.laysGrow_ren := {
 mixed := by kernel_rfl
 f4 := ⟨Tryz.f207.name, by kernel_rfl, Tryz.func207.trans (congrArg some (by kernel_rfl))⟩
 t0 := Tryz.underlying0
 a0 := Tryz.isAgg0
 z0 := Tryz.sizeOf0
 v0 := Tryz.zeroValue0
 t3 := Tryz.underlying3
 a3 := Tryz.isAgg3
 z3 := Tryz.sizeOf3
 v3 := Tryz.zeroValue3
 t4 := Tryz.underlying4
 a4 := Tryz.isAgg4
 z4 := Tryz.sizeOf4
 v4 := Tryz.zeroValue4
 t9 := Tryz.underlying9
 a9 := Tryz.isAgg9
 z9 := Tryz.sizeOf9
 v9 := Tryz.zeroValue9
 t20 := Tryz.underlying20
 a20 := Tryz.isAgg20
 z20 := Tryz.sizeOf20
 v20 := Tryz.zeroValue20
 t22 := Tryz.underlying74
 a22 := Tryz.isAgg74
 z22 := Tryz.sizeOf74
 v22 := Tryz.zeroValue74
}
end Go.Proofs
namespace Go.Proofs.YtkaobkjcjodffaaGreatDoor
open Go Go.Pw Go.RowKit Go.Lib Go.Sort
variable {Gl : Glob}
def cmpI (a b : Int) : Int := if a < b then -1 else if a > b then 1 else 0
theorem w_isNaN (n : Int) (w : World) : Calls Tryz.prog 224 #[.int .u32 n] w fun e w' => e = .returned (.bool false) ∧ w' = w := by
 go_enter Tryz.func224, Tryz.ntmps224
 go_wp2
 go_ret
 exact ⟨rfl, rfl⟩
theorem w_cmp (a b : Int) (w : World) : Calls Tryz.prog 206 #[.int .u32 a, .int .u32 b] w fun e w' => e = .returned (.int .i64 (cmpI a b)) ∧ w' = w := by
 have h1 := fun w => w_isNaN a w
 have h2 := fun w => w_isNaN b w
 unfold cmpI
 by_cases c1 : a < b
 ·rw [if_pos c1]
  go_enter Tryz.func206, Tryz.ntmps206
  go_wp2_with (go_at_call 224; first | (refine (h1 _).mono ?_; rintro e w' ⟨rfl, rfl⟩) | (refine (h2 _).mono ?_; rintro e w' ⟨rfl, rfl⟩))
  go_ret
  exact ⟨rfl, rfl⟩
 ·rw [if_neg c1]
  by_cases c2 : a > b
  ·rw [if_pos c2]
   go_enter Tryz.func206, Tryz.ntmps206
   go_wp2_with (go_at_call 224; first | (refine (h1 _).mono ?_; rintro e w' ⟨rfl, rfl⟩) | (refine (h2 _).mono ?_; rintro e w' ⟨rfl, rfl⟩))
   go_ret
   exact ⟨rfl, rfl⟩
  ·rw [if_neg c2]
   go_enter Tryz.func206, Tryz.ntmps206
   go_wp2_with (go_at_call 224; first | (refine (h1 _).mono ?_; rintro e w' ⟨rfl, rfl⟩) | (refine (h2 _).mono ?_; rintro e w' ⟨rfl, rfl⟩))
   go_ret
   exact ⟨rfl, rfl⟩
theorem w_byLo (x y : TRng) (W : World) : Calls Tryz.prog 205 #[.agg #[.int .u32 x.lo, .int .u32 x.hi], .agg #[.int .u32 y.lo, .int .u32 y.hi]] W fun e w' => e = .returned (.int .i64 (cmpI x.lo y.lo)) ∧ ∃ q os', w' = grow (W.drewN q) os' := by
 have hcon := fun W' => w_cmp x.lo y.lo W'
 generalize cmpI x.lo y.lo = r at hcon ⊢
 go_enter Tryz.func205, Tryz.ntmps205
 go_wp2_with (go_at_call 206; refine (hcon _).mono ?_; rintro e w' ⟨rfl, rfl⟩)
 go_ret
 exact ⟨rfl, 0, _, by rw [alloc_eq_grow, alloc_eq_grow, grow_grow]; rfl⟩
def encR (x : TRng) : List Value := [.int .u32 x.lo, .int .u32 x.hi]
theorem ltLo (x y : TRng) : ltOf (fun x y : TRng => cmpI x.lo y.lo) x y = decide (x.lo < y.lo) := by
 unfold ltOf cmpI
 by_cases h1 : x.lo < y.lo
 ·simp [h1]
 ·by_cases h2 : y.lo < x.lo <;> simp [h1, h2]
theorem swoLo : SWO (ltOf fun x y : TRng => cmpI x.lo y.lo) where
 irrefl x := by rw [ltLo]; simp
 trans x y z h1 h2 := by rw [ltLo] at *; simp at *; omega
 ntrans x y z h1 h2 := by rw [ltLo] at *; simp at *; omega
theorem flat_at (d : Array TRng) (i c : Nat) (hi : i < d.size) (hc : c < 2) : (flatK encR 2 d)[i * 2 + c]! = (encR d[i]!)[c]! := by
 rw [get_flatK encR 2 d (i * 2 + c) (by omega), show (i * 2 + c) / 2 = i by omega, show (i * 2 + c) % 2 = c by omega]
theorem sort_run {B : Base} {A : Nat → Prop} {w : World} {β : List Nat} {st : List PObj} {i b cap : Nat} {d : List TRng} (hi : Inv Gl B A w β st) (hst : st[i]? = some (.arr 2 (d.map eRng) cap)) (hb : β[i]? = some b) (hc : cap ≠ 0) (hd : d.length < 4611686018427387904) :
  Calls Tryz.prog 204 #[.slice (some ⟨b, 0 * 2, none⟩) d.length cap, .func (.func 205) #[] #[]] w fun e w' =>
   e = .returned (.tuple #[]) ∧ ∃ d' : List TRng, d'.Perm d ∧ (d'.Pairwise fun a b => a.lo ≤ b.lo) ∧ Inv Gl B A w' β (st.set i (.arr 2 (d'.map eRng) cap)) ∧ Ext A w A w' := by
 obtain ⟨hlc, hcm, hck, h0⟩ := hi.obj i b _ hb hst
 obtain ⟨vs, T, fr, hh, hvl, hfr, hel⟩ := h0 hc
 rw [List.length_map] at hlc
 have hblk : b < w.heap.size := (Array.getElem?_eq_some_iff.1 hh).1
 have hcell : ∀ (i c : Nat) (hi : i < d.length), c < 2 → vs[i * 2 + c]? = some (encR d[i])[c]! := fun i c hi hc2 => by
  have hx : (d.map eRng)[i]? = some (eRng d[i]) := by simp [hi]
  match c, hc2 with
  | 0, _ => obtain ⟨v, hv, hdn⟩ := hel i _ 0 (.int .u32 d[i].lo) hx rfl; cases hdn; exact hv
  | 1, _ => obtain ⟨v, hv, hdn⟩ := hel i _ 1 (.int .u32 d[i].hi) hx rfl; cases hdn; exact hv
 have hH : HoldsK encR 2 w b (0 * 2) d.toArray := fun j hj => by
  rw [size_flatK] at hj
  have hj' : j < d.length * 2 := hj
  have h2 := hcell (j / 2) (j % 2) (by omega) (by omega)
  rw [show j / 2 * 2 + j % 2 = j by omega] at h2
  refine ⟨?_, ?_⟩
  ·simp only [World.cell?, hh]
   have h3 := flat_at d.toArray (j / 2) (j % 2) (by show j / 2 < d.length; omega) (by omega)
   rw [show j / 2 * 2 + j % 2 = j by omega] at h3
   show vs.toArray[0 * 2 + j]? = _
   rw [List.getElem?_toArray, show 0 * 2 + j = j by omega, h2]
   show some _ = some ((flatK encR 2 d.toArray)[j]!)
   rw [h3, getElem!_pos d.toArray (j / 2) (by show j / 2 < d.length; omega)]
   rfl
  ·have := hfr j (by omega)
   simp only [World.frozen?, hh]
   rw [show 0 * 2 + j = j by omega]
   simp only [Bool.and_eq_false_iff, decide_eq_false_iff_not]
   omega
 have hcon := AnyQ.slices_SortFunc Tryz.laysSort 2 Tryz.isAgg85 Tryz.sizeOf85 encR (fun _ => rfl) (fun x v hv => by simp [encR] at hv; rcases hv with rfl | rfl <;> rfl) (fun x y => cmpI x.lo y.lo) swoLo 205 #[] b (0 * 2) cap d.toArray w
  (enters_of Tryz.func205 (by kernel_rfl) rfl) (fun _ _ _ _ x y => w_byLo x y _) hH hblk hd
 refine Calls.mono hcon ?_
 rintro e w' ⟨rfl, d', n, os, hp, hs, rfl⟩
 have hds : d'.size = d.length := hp.1
 have hperm : d'.toList.Perm d := by
  have h1 : d'.extract 0 d.toArray.size = d' := by rw [show d.toArray.size = d'.size from hds.symm, Array.extract_size]
  have h2 : d.toArray.extract 0 d.toArray.size = d.toArray := Array.extract_size
  have := hp.2.2
  rw [h1, h2] at this
  exact this
 have hsort : d'.toList.Pairwise fun a b => a.lo ≤ b.lo := by
  rw [List.pairwise_iff_getElem]
  intro i j hi' hj' hij
  have := hs i j (Nat.zero_le _) hij (by show j < d.length; rw [← hds]; exact hj')
  rw [ltLo, getElem!_pos d' i (by simpa using hi'), getElem!_pos d' j (by simpa using hj')] at this
  simp only [decide_eq_false_iff_not] at this
  simp only [Array.getElem_toList]
  omega
 -- the world with the row rewritten
 have hi1 : Inv Gl B A (Sort.ahead w n) β st :=
  ⟨hi.len, hi.inj, fun i b o h1 h2 => (hi.obj i b o h1 h2).mono ⟨fun _ h => h, fun _ _ => rfl⟩ (.refl _) rfl, hi.notA, hi.own, hi.lt, hi.new, hi.old, hi.size, hi.os, hi.tape, hi.output, hi.keep, hi.glob, hi.pre, hi.apart⟩
 have hHd := holdsK_putRowK encR 2 (Sort.ahead w n) b (0 * 2) d.toArray d' (holdsK_ahead encR 2 w n b (0 * 2) d.toArray hH) hds
 have hhb : (putRowK encR 2 (Sort.ahead w n) b (0 * 2) d').heap[b]? = some (.cells (putCells id (0 * 2) (flatK encR 2 d') vs.toArray) T fr) := by
  show (Array.modify w.heap b _)[b]? = _
  rw [Array.getElem?_modify, if_pos rfl, hh]
  rfl
 have hobj : ObjRel A β (putRowK encR 2 (Sort.ahead w n) b (0 * 2) d') b (.arr 2 (d'.toList.map eRng) cap) := by
  refine ⟨by simp; omega, hcm, by simp only [List.mem_map]; rintro _ ⟨x, _, rfl⟩; rfl, fun _ => ⟨(putCells id (0 * 2) (flatK encR 2 d') vs.toArray).toList, T, fr, by rw [hhb], by simp [putCells, hvl], hfr, fun i x j c hx hj => ?_⟩⟩
  rw [List.getElem?_map] at hx
  cases hxi : d'.toList[i]? with
  | none => rw [hxi] at hx; cases hx
  | some r =>
   rw [hxi] at hx
   cases hx
   have hil : i < d'.size := by have := (List.getElem?_eq_some_iff.1 hxi).1; simpa using this
   have hri : d'[i]! = r := by
    rw [getElem!_pos d' i hil]
    have := List.getElem?_eq_some_iff.1 hxi
    obtain ⟨h1, h2⟩ := this
    simpa using h2
   have key : ∀ c < 2, (putCells id (0 * 2) (flatK encR 2 d') vs.toArray).toList[i * 2 + c]? = some (encR r)[c]! := fun c hc2 => by
    have := (hHd (i * 2 + c) (by rw [size_flatK]; omega)).1
    rw [World.cell?, hhb] at this
    simp only [Option.isSome_none, Bool.false_eq_true, if_false] at this
    rw [show 0 * 2 + (i * 2 + c) = i * 2 + c by omega] at this
    rw [Array.getElem?_toList, this]
    show some ((flatK encR 2 d')[i * 2 + c]!) = _
    rw [flat_at d' i c hil hc2, hri]
   match j, hj with
   | 0, hj => cases hj; exact ⟨_, key 0 (by decide), .int ..⟩
   | 1, hj => cases hj; exact ⟨_, key 1 (by decide), .int ..⟩
   | j + 2, hj => cases hj
 obtain ⟨hi2, hE⟩ := hi1.write (w' := putRowK encR 2 (Sort.ahead w n) b (0 * 2) d') hb hst (by cases cap with | zero => exact absurd rfl hc | succ n => rfl) (size_putRow ..) rfl rfl rfl (fun k hk => by
  show (Array.modify w.heap b _)[k]? = _
  rw [Array.getElem?_modify, if_neg (Ne.symm hk)]; rfl) hobj
 obtain ⟨hi3, hE3⟩ := hi2.below (w' := grow (putRowK encR 2 (Sort.ahead w n) b (0 * 2) d') os) ⟨rfl, rfl, rfl, by rw [Go.Sort.size_grow]; omega, fun k hk => Go.Sort.heap_grow_old _ _ hk⟩
 exact ⟨rfl, d'.toList, hperm, hsort, hi3, ⟨fun _ h => h, fun b hb => (hE3.same b hb).trans (hE.same b hb)⟩⟩
theorem op_sort {B : Base} {env : List PV} {st : List PObj} {o : Oper} {K : PV → List PObj → Prop} {x y : Operand} {ats : Array TypeId} {i cap : Nat} {d : List TRng} (ho : o.op = .call ⟨.value (.func 204), #[x, y], ats⟩)
  (hx : pe env x = .msl 2 i 0 (d.map eRng).length cap) (hy : pe env y = .fn 205 []) (hst : st[i]? = some (.arr 2 (d.map eRng) cap)) (hc : cap ≠ 0) (hd : d.length < 4611686018427387904)
  (hK : ∀ d' : List TRng, d'.Perm d → (d'.Pairwise fun a b => a.lo ≤ b.lo) → K (.tup []) (st.set i (.arr 2 (d'.map eRng) cap))) : OpP Tryz.prog Gl B o env st K := fun A w β tmps Q hi he => by
 have d0 := he.eval [] x
 have d1 := he.eval [] y
 rw [hx] at d0
 rw [hy] at d1
 obtain ⟨b, hb, h0⟩ := d0.msl_inv hc
 obtain ⟨cs, h1, hcl, _⟩ := d1.fn_inv
 obtain rfl : cs = [] := List.length_eq_zero_iff.1 hcl.symm
 unfold Oper.wp
 have hrun : (execOp (⟨tmps.toArray, []⟩ : Act).eval o).run Tryz.prog w = .ok (.enter 204 #[.slice (some ⟨b, 0 * 2, none⟩) d.length cap, .func (.func 205) #[] #[]]) w := by
  simp only [execOp, ho, Go.resolve, Act.eval, Deferred.ofValue, Sem.run_bind, Sem.run_pure, Result.andThen_ok, invoke]
  rw [e204]
  congr 2
  have : #[x, y].map (⟨tmps.toArray, []⟩ : Act).eval = #[.slice (some ⟨b, 0 * 2, none⟩) d.length cap, .func (.func 205) #[] #[]] := by simp [h0, h1]
  simpa using this
 rw [hrun]
 refine (sort_run hi hst hb hc hd).mono ?_
 rintro e w' ⟨rfl, d', hp, hs, hi', hE⟩
 exact ⟨_, _, _, A, β, rfl, hK d' hp hs, .tup β [] [] rfl (by intro j c v h; simp at h), hi', hE, .refl _⟩
end Go.Proofs.YtkaobkjcjodffaaGreatDoor
namespace Go.Proofs.YtkaobkjcjodffaaGreatDoor
open Go Go.Pw
variable {Gl : Glob}
attribute [local irreducible] PW PWL OpP PCalls PWO
def RIn (r : TRng) : Prop := (0 ≤ r.lo ∧ r.lo < 4294967296) ∧ 0 ≤ r.hi ∧ r.hi < 4294967296
theorem mstep_in {out : List TRng} {r : TRng} (h : ∀ x ∈ out, RIn x) (hr : RIn r) : ∀ x ∈ mstep out r, RIn x := by
 rcases List.eq_nil_or_concat out with rfl | ⟨a, q, rfl⟩
 ·rw [mstep_nil]; intro x hx; rw [List.mem_singleton] at hx; subst hx; exact hr
 ·rw [List.concat_eq_append] at *
  rw [mstep_snoc]
  have hq := h q (by simp)
  split
  ·intro x hx
   rcases List.mem_append.1 hx with hx | hx
   ·exact h x (by simp [hx])
   ·rw [List.mem_singleton] at hx; subst hx
    unfold RIn at *
    dsimp only
    omega
  ·intro x hx
   rcases List.mem_append.1 hx with hx | hx
   ·exact h x hx
   ·rw [List.mem_singleton] at hx; subst hx; exact hr
theorem mstep_len (out : List TRng) (r : TRng) : (mstep out r).length ≤ out.length + 1 := by
 rcases List.eq_nil_or_concat out with rfl | ⟨a, q, rfl⟩
 ·simp [mstep_nil]
 ·rw [List.concat_eq_append, mstep_snoc]
  split <;> simp
theorem filt_snoc {l : List TRng} {i : Nat} (h : i < l.length) : (l.take (i + 1)).filter (fun r => decide (r.lo ≤ r.hi)) = (l.take i).filter (fun r => decide (r.lo ≤ r.hi)) ++ (if l[i].lo ≤ l[i].hi then [l[i]] else []) := by
 rw [List.take_succ_eq_append_getElem h, List.filter_append]
 congr 1
 by_cases hc : l[i].lo ≤ l[i].hi <;> simp [hc]
theorem c_canonical (l : List TRng) (hl : l.length < 4294967296) (hin : ∀ r ∈ l, RIn r) (hne : l.filter (fun r => decide (r.lo ≤ r.hi)) ≠ []) : PFun Tryz.prog Gl 174 [.sl (l.map eRng)] fun r => r = .sl ((canon l).map eRng) := by
 (refine PFun.of hT Tryz.func174 rfl fun B hD => ?_; refine pw_norm rfl ?_)
 (repeat' (first | refine zS ?_ | refine zq5 ?_ | refine zq6 ?_ | (refine zT ?_ ?_ <;> intro h <;> first | exact zX | refine zNq ?_)))
 refine pw_ghost 2 ?_
 refine pw_ghost 2 ?_
 refine zNq ?_
 refine pw_for hD (fun a : Nat × Nat => [(3, .msl 2 0 0 (((l.take a.1).filter fun r => decide (r.lo ≤ r.hi)).map eRng).length a.2), (12, .int .i64 a.1)]) (fun a => [.arr 2 (((l.take a.1).filter fun r => decide (r.lo ≤ r.hi)).map eRng) a.2, .arr 2 [] 0]) (fun a => a.1 ≤ l.length) (fun a => l.length - a.1) (0, 0) (Nat.zero_le _) 2 rfl (fun _ => rfl) zLes (fun _ => rfl) (fun _ => rfl) zLe ?_
 rintro ⟨i, cap⟩ hi
 dsimp only at hi ⊢
 (repeat' (first | refine zS ?_ | refine zq5 ?_ | refine zq6 ?_ | (refine zT ?_ ?_ <;> intro h <;> first | exact zX | refine zNq ?_)))
 ·have hlt : i < l.length := by omega
  have hg : l.getD i default = l[i] := by rw [List.getD, List.getElem?_eq_getElem hlt]; rfl
  have hfl := List.length_filter_le (fun r : TRng => decide (r.lo ≤ r.hi)) (l.take i)
  have htl : (l.take i).length ≤ i := List.length_take_le ..
  (refine pl_append (b := 8) hT hD rfl rfl rfl rfl rfl rfl rfl rfl (.inl (Nat.zero_lt_succ _)) rfl rfl (by simp; omega) (fun cap' _ hcap => ?_); (refine zNp ?_))
  (repeat' (first | refine zS ?_ | refine zq5 ?_ | refine zq6 ?_ | (refine zT ?_ ?_ <;> intro h <;> first | exact zX | refine zNq ?_)))
  refine ⟨(i + 1, cap'), hlt, by show _ - (i + 1) < _ - i; omega, ?_, ?_⟩
  all_goals
   rw [hg] at h ⊢
   simp only [filt_snoc hlt, if_pos h, List.map_append, List.length_append, List.map_cons, List.map_nil]
  ·(exact zLe)
  ·(exact zLes)
 ·have hlt : i < l.length := by omega
  have hg : l.getD i default = l[i] := by rw [List.getD, List.getElem?_eq_getElem hlt]; rfl
  refine ⟨(i + 1, cap), hlt, by show _ - (i + 1) < _ - i; omega, ?_, ?_⟩
  all_goals
   rw [hg] at h
   simp only [filt_snoc hlt, if_neg h, List.append_nil]
  ·(exact zLe)
  ·(exact zLes)
 have hie : i = l.length := by omega
 subst hie
 rw [List.take_length]
 clear h hi
 have hfl := List.length_filter_le (fun r : TRng => decide (r.lo ≤ r.hi)) l
 have hpf := canon_ok l
 have hcan : ∀ d : List TRng, d.Perm (l.filter fun r => decide (r.lo ≤ r.hi)) → (d.Pairwise fun a b => a.lo ≤ b.lo) → mergeAll d = canon l := fun d h1 h2 => merge_canon h1 h2
 have hfin : ∀ r ∈ l.filter (fun r => decide (r.lo ≤ r.hi)), RIn r := fun r hr => hin r (List.mem_filter.1 hr).1
 generalize l.filter (fun r => decide (r.lo ≤ r.hi)) = f at hne hfl hcan hfin ⊢
 have hfp : 0 < f.length := List.length_pos_iff.2 hne
 refine pl_room 0 rfl fun hroom => ?_
 have hcap : cap ≠ 0 := by simp at hroom; omega
 refine pl_op rfl (op_sort rfl rfl rfl rfl hcap (by omega) fun d hdp hds => ?_)
 refine zNp ?_
 rw [← hdp.length_eq] at hfp
 have hdin : ∀ r ∈ d, RIn r := fun r hr => hfin r (hdp.mem_iff.1 hr)
 have hfin2 := hcan d hdp hds
 have hdl := hdp.length_eq
 refine pl_nil ?_
 rw [List.length_map, ← hdl]
 refine pw_seq ?_
 refine pw_frz1 0 3 rfl rfl (List.length_map ..).symm ?_
 refine zNq ?_
 (repeat' (first | refine zS ?_ | refine zq5 ?_ | refine zq6 ?_ | (refine zT ?_ ?_ <;> intro h <;> first | exact zX | refine zNq ?_)))
 clear hpf hcan hne hroom hcap hdp hfin hin
 refine pw_for hD (fun a : Nat × Nat => [(4, .msl 2 1 0 ((mergeAll (d.take a.1)).map eRng).length a.2), (30, .int .i64 a.1)]) (fun a => [.dead, .arr 2 ((mergeAll (d.take a.1)).map eRng) a.2])
  (fun a => a.1 ≤ d.length ∧ (∀ x ∈ mergeAll (d.take a.1), RIn x) ∧ (mergeAll (d.take a.1)).length ≤ a.1) (fun a => d.length - a.1) (0, 0) ⟨Nat.zero_le _, by intro x hx; simp [mergeAll] at hx, by simp [mergeAll]⟩ 2 rfl (fun _ => rfl) zLes (fun _ => rfl) (fun _ => rfl) zLe ?_
 rintro ⟨i, cap'⟩ ⟨hi, ho, hol⟩
 dsimp only at hi ho hol ⊢
 have hnext : ∀ h : i < d.length, mergeAll (d.take (i + 1)) = mstep (mergeAll (d.take i)) d[i] := fun h => by
  rw [List.take_succ_eq_append_getElem h, mergeAll, List.foldl_append]; rfl
 by_cases hlt : i < d.length
 ·have hg : d.getD i default = d[i] := by rw [List.getD, List.getElem?_eq_getElem hlt]; rfl
  have hn := hnext hlt
  have hri := hdin d[i] (List.getElem_mem hlt)
  rw [← hg] at hn hri
  have hst : ∀ x ∈ mstep (mergeAll (d.take i)) (d.getD i default), RIn x := mstep_in ho hri
  have hsl := mstep_len (mergeAll (d.take i)) (d.getD i default)
  rw [← hn] at hst hsl
  refine pw_room 1 rfl fun hroom => ?_
  rw [List.length_map] at hroom
  generalize mergeAll (d.take i) = out at ho hol hn hsl hroom ⊢
  unfold RIn at hri
  rcases List.eq_nil_or_concat out with rfl | ⟨a, q, rfl⟩
  ·have hnl : ([] : List TRng).length = 0 := rfl
   (repeat' (first | (refine zDr [[0,1,2,3,4,5,6,7,8,9,10,11,12,13,14,15]] ?_; refine zDn ?_) | (refine zDr [[0,1,2,3,4,5,6,7,8,9,10,11,12,13],[14]] ?_; refine zDn ?_) | refine zS ?_ | refine zD ?_ | refine po_both ?_ ?_ | refine pwt_both ?_ ?_ | refine pwt_fork ?_ | refine pwt_lin ?_ | (refine po_test rfl rfl rfl rfl zB ?_ ?_ <;> intro hb <;> first | exact zX | refine zDn ?_) | refine zq5 ?_ | refine zq6 ?_ | (refine zT ?_ ?_ <;> intro h <;> first | exact zX | refine zNq ?_)))
   (refine pl_append (b := 8) hT hD rfl rfl rfl rfl rfl rfl rfl rfl (.inl (Nat.zero_lt_succ _)) rfl rfl (by simp) (fun cap2 _ hcap => ?_); (refine zNp ?_))
   (repeat' (first | refine zS ?_ | refine zq5 ?_ | refine zq6 ?_ | (refine zT ?_ ?_ <;> intro h <;> first | exact zX | refine zNq ?_)))
   rw [mstep_nil] at hn
   refine ⟨(i + 1, cap2), ⟨hlt, hst, by show (mergeAll (d.take (i + 1))).length ≤ i + 1; omega⟩, by show _ - (i + 1) < _ - i; omega, ?_, ?_⟩
   all_goals simp only [hn]
   ·(exact zLe)
   ·(exact zLes)
  ·rw [List.concat_eq_append] at *
   have hq := ho q (by simp)
   have hll : (a ++ [q]).length = a.length + 1 := by simp
   unfold RIn at hq
   have hc0 : cap' ≠ 0 := by omega
   have hix : ((a ++ [q]).map eRng)[0 + (((a ++ [q]).length : Int) - 1).toNat]? = some (eRng q) := by rw [show 0 + (((a ++ [q]).length : Int) - 1).toNat = a.length by omega]; simp
   (repeat' (first | (refine zDr [[0,1,2,3,4,5,6,7,8,9,10,11,12,13,14,15]] ?_; refine zDn ?_) | (refine zDr [[0,1,2,3,4,5,6,7,8,9,10,11,12,13],[14]] ?_; refine zDn ?_) | refine zS ?_ | refine zD ?_ | refine po_both ?_ ?_ | refine pwt_both ?_ ?_ | refine pwt_fork ?_ | refine pwt_lin ?_ | (refine po_test rfl rfl rfl rfl zB ?_ ?_ <;> intro hb <;> first | exact zX | refine zDn ?_) | refine zq5 ?_ | refine zq6 ?_ | (refine zT ?_ ?_ <;> intro h <;> first | exact zX | refine zNq ?_)))
   (refine po_gval rfl rfl rfl (v_indexm hT rfl rfl rfl rfl rfl (by omega) (by simp; omega) hc0) ?_; refine zDn ?_)
   refine zD ?_
   (refine po_gloadE (x0 := eRng q) rfl rfl rfl hT rfl rfl rfl rfl rfl (hc0) (hix) rfl ?_; (first | refine po_norm rfl ?_ | refine po_normE rfl ?_))
   (repeat' (first | (refine zDr [[0,1,2,3,4,5,6,7,8,9,10,11,12,13,14,15]] ?_; refine zDn ?_) | (refine zDr [[0,1,2,3,4,5,6,7,8,9,10,11,12,13],[14]] ?_; refine zDn ?_) | refine zS ?_ | refine zD ?_ | refine po_both ?_ ?_ | refine pwt_both ?_ ?_ | refine pwt_fork ?_ | refine pwt_lin ?_ | (refine po_test rfl rfl rfl rfl zB ?_ ?_ <;> intro hb <;> first | exact zX | refine zDn ?_) | refine zq5 ?_ | refine zq6 ?_ | (refine zT ?_ ?_ <;> intro h <;> first | exact zX | refine zNq ?_)))
   ·(refine po_val rfl rfl (v_indexm hT rfl rfl rfl rfl rfl (by omega) (by simp; omega) hc0) ?_; refine zDn ?_)
    refine zD ?_
    (refine po_loadE (x0 := eRng q) rfl rfl hT rfl rfl rfl rfl rfl (hc0) (hix) rfl ?_; refine zDn ?_)
    refine zD ?_
    (refine po_val rfl rfl (v_max rfl rfl rfl) ?_; refine zDn ?_)
    (refine po_val rfl rfl (v_indexm hT rfl rfl rfl rfl rfl (by omega) (by simp; omega) hc0) ?_; refine zDn ?_)
    refine zD ?_
    (refine po_step rfl rfl (op_storeE' (x0 := eRng q) (x1 := eRng ⟨q.lo, max q.hi (d.getD i default).hi⟩) (xs' := (a ++ [(⟨q.lo, max q.hi (d.getD i default).hi⟩ : TRng)]).map eRng) hT rfl rfl rfl rfl rfl (hc0) (hix) rfl rfl rfl rfl (Nat.le_of_ble_eq_true rfl) rfl (by rw [show 0 + (((a ++ [q]).length : Int) - 1).toNat = a.length by omega]; simp) ⟨zLok, ?_⟩); refine zDn ?_)
    refine zD ?_
    (repeat' (first | refine zS ?_ | refine zq5 ?_ | refine zq6 ?_ | (refine zT ?_ ?_ <;> intro h <;> first | exact zX | refine zNq ?_)))
    rw [mstep_snoc, if_pos h] at hn
    refine ⟨(i + 1, cap'), ⟨hlt, hst, by show (mergeAll (d.take (i + 1))).length ≤ i + 1; omega⟩, by show _ - (i + 1) < _ - i; omega, ?_, ?_⟩
    all_goals simp only [hn, List.map_append, List.length_append, List.map_cons, List.map_nil]
    ·(exact zLe)
    ·(exact zLes)
   ·rw [mstep_snoc, if_neg h] at hn
    (refine pl_append (b := 8) hT hD rfl rfl rfl rfl rfl rfl rfl rfl (.inl (Nat.zero_lt_succ _)) rfl rfl (by simp; omega) (fun cap2 _ hcap => ?_); (refine zNp ?_))
    (repeat' (first | refine zS ?_ | refine zq5 ?_ | refine zq6 ?_ | (refine zT ?_ ?_ <;> intro h <;> first | exact zX | refine zNq ?_)))
    refine ⟨(i + 1, cap2), ⟨hlt, hst, by show (mergeAll (d.take (i + 1))).length ≤ i + 1; omega⟩, by show _ - (i + 1) < _ - i; omega, ?_, ?_⟩
    all_goals simp only [hn, List.map_append, List.length_append, List.map_cons, List.map_nil]
    ·(exact zLe)
    ·(exact zLes)
 have hie : i = d.length := by omega
 subst hie
 rw [List.take_length, hfin2]
 (repeat' (first | refine zS ?_ | refine zq5 ?_ | refine zq6 ?_ | (refine zT ?_ ?_ <;> intro h <;> first | exact zX | refine zNq ?_)))
 exact ret0 _ (.sl ((canon l).map eRng)) rfl rfl (.inr (.inr (.inr (.inl ⟨_, _, _, _, _, _, rfl, rfl, rfl, rfl, rfl⟩)))) rfl
end Go.Proofs.YtkaobkjcjodffaaGreatDoor
