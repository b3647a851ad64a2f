/-
 Contracts of functions, walked over pure values.
-/
import Derived.Test.YtkaobkjcjodffaaGreatDoorHK4
import Derived.Test.YtkaobkjcjodffaaGreatDoorGPwBox
import Derived.Test.YtkaobkjcjodffaaGreatDoorGPwApX
set_option maxHeartbeats 20000000
set_option maxRecDepth 100000
namespace Go.Proofs.YtkaobkjcjodffaaGreatDoor
open Go Go.Pw
section
def Asc (l : List Int) : Prop := l.Pairwise (· < ·)
def ins1 : List Int → Int → List Int
 | [], v => [v]
 | x :: l, v => if x < v then x :: ins1 l v else if x = v then x :: l else v :: x :: l
def ins (l : List Int) (v top : Int) : List Int := if v > top then l else ins1 l v
theorem ins1_mem : ∀ (l : List Int) (v x : Int), x ∈ ins1 l v ↔ x ∈ l ∨ x = v
 | [], v, x => by simp [ins1]
 | y :: l, v, x => by
  unfold ins1
  split
  ·simp only [List.mem_cons, ins1_mem l v x, or_assoc]
  ·split
   ·rename_i h; subst h; simp only [List.mem_cons]; constructor
    ·intro h; exact .inl h
    ·rintro (h | h); exact h; exact .inl h
   ·simp only [List.mem_cons]
    constructor
    ·rintro (h | h | h); exact .inr h; exact .inl (.inl h); exact .inl (.inr h)
    ·rintro ((h | h) | h); exact .inr (.inl h); exact .inr (.inr h); exact .inl h
theorem ins1_asc : ∀ {l : List Int} {v : Int}, Asc l → Asc (ins1 l v)
 | [], v, _ => List.pairwise_singleton _ _
 | y :: l, v, h => by
  unfold Asc at h ⊢
  rw [List.pairwise_cons] at h
  unfold ins1
  split
  ·rename_i h1
   refine List.pairwise_cons.2 ⟨fun x hx => ?_, ins1_asc h.2⟩
   rcases (ins1_mem l v x).1 hx with hx | hx
   ·exact h.1 x hx
   ·omega
  ·split
   ·exact List.pairwise_cons.2 h
   ·refine List.pairwise_cons.2 ⟨fun x hx => ?_, List.pairwise_cons.2 h⟩
    rcases List.mem_cons.1 hx with rfl | hx
    ·omega
    ·have := h.1 x hx; omega
theorem ins1_len (l : List Int) (v : Int) : (ins1 l v).length ≤ l.length + 1 := by
 induction l with
 | nil => simp [ins1]
 | cons y l ih =>
  unfold ins1
  split
  ·simp only [List.length_cons]; omega
  ·split
   ·simp
   ·simp
theorem ins_len (l : List Int) (v top : Int) : (ins l v top).length ≤ l.length + 1 := by
 unfold ins; split
 ·omega
 ·exact ins1_len l v
theorem ins1_at : ∀ (l : List Int) (v : Int) (k : Nat), k ≤ l.length → (∀ j, j < k → l.getD j 0 < v) → (k < l.length → ¬ l.getD k 0 < v) → ins1 l v = if k < l.length ∧ l.getD k 0 = v then l else l.take k ++ v :: l.drop k
 | [], v, k, hk, _, _ => by
  have : k = 0 := by simpa using hk
  subst this
  simp [ins1]
 | y :: l, v, 0, _, _, h2 => by
  have h := h2 (by simp)
  simp only [List.getD_cons_zero] at h
  unfold ins1
  rw [if_neg h]
  simp only [List.length_cons, Nat.zero_lt_succ, true_and, List.getD_cons_zero, List.take_zero, List.nil_append, List.drop_zero]
 | y :: l, v, k + 1, hk, h1, h2 => by
  have hy := h1 0 (by omega)
  simp only [List.getD_cons_zero] at hy
  have ih := ins1_at l v k (by simpa using hk) (fun j hj => by have := h1 (j + 1) (by omega); simpa using this) (fun h => by have := h2 (by simpa using h); simpa using this)
  unfold ins1
  rw [if_pos hy, ih]
  simp only [List.length_cons, Nat.add_lt_add_iff_right, List.getD_cons_succ, List.take_succ_cons, List.cons_append, List.drop_succ_cons]
  split <;> rfl
theorem ins_mem (l : List Int) (v top x : Int) (_h : ∀ y ∈ l, y ≤ top) : x ∈ ins l v top ↔ x ∈ l ∨ (x = v ∧ v ≤ top) := by
 unfold ins
 split
 ·rename_i h1
  constructor
  ·exact .inl
  ·rintro (h | ⟨rfl, h⟩)
   ·exact h
   ·omega
 ·rename_i h1
  rw [ins1_mem]
  constructor
  ·rintro (h | h)
   ·exact .inl h
   ·exact .inr ⟨h, by omega⟩
  ·rintro (h | h)
   ·exact .inl h
   ·exact .inr h.1
theorem ins_asc {l : List Int} {v top : Int} (h : Asc l) : Asc (ins l v top) := by
 unfold ins; split
 ·exact h
 ·exact ins1_asc h
def stepS (top : Int) (out : List Int) (r : TRng) : List Int := if r.lo ≤ r.hi then ins (ins out r.lo top) (r.hi + 1) top else out
def starts (l : List TRng) (top : Int) : List Int := l.foldl (stepS top) [0]
structure StOk (s : List Int) (top : Int) (l : List TRng) : Prop where
 asc : Asc s
 rng : ∀ x ∈ s, 0 ≤ x ∧ x ≤ top
 zero : (0 : Int) ∈ s
 lo : ∀ r ∈ l, r.lo ≤ r.hi → r.lo ≤ top → r.lo ∈ s
 hi : ∀ r ∈ l, r.lo ≤ r.hi → r.hi + 1 ≤ top → r.hi + 1 ∈ s
theorem StOk.step {s : List Int} {top : Int} {l : List TRng} (h : StOk s top l) {r : TRng} (hr : RIn r) : StOk (stepS top s r) top (l ++ [r]) := by
 unfold stepS
 unfold RIn at hr
 have h1 : ∀ y ∈ s, y ≤ top := fun y hy => (h.rng y hy).2
 split
 ·rename_i hle
  have m1 := fun x => ins_mem s r.lo top x h1
  have h2 : ∀ y ∈ ins s r.lo top, y ≤ top := fun y hy => by
   rcases (m1 y).1 hy with hy | hy
   ·exact h1 y hy
   ·omega
  have m2 := fun x => ins_mem (ins s r.lo top) (r.hi + 1) top x h2
  refine ⟨ins_asc (ins_asc h.asc), fun x hx => ?_, (m2 0).2 (.inl ((m1 0).2 (.inl h.zero))), fun q hq h3 h4 => ?_, fun q hq h3 h4 => ?_⟩
  ·rcases (m2 x).1 hx with hx | hx
   ·rcases (m1 x).1 hx with hx | hx
    ·exact h.rng x hx
    ·omega
   ·omega
  ·rcases List.mem_append.1 hq with hq | hq
   ·exact (m2 _).2 (.inl ((m1 _).2 (.inl (h.lo q hq h3 h4))))
   ·rw [List.mem_singleton] at hq; subst hq
    exact (m2 _).2 (.inl ((m1 _).2 (.inr ⟨rfl, h4⟩)))
  ·rcases List.mem_append.1 hq with hq | hq
   ·exact (m2 _).2 (.inl ((m1 _).2 (.inl (h.hi q hq h3 h4))))
   ·rw [List.mem_singleton] at hq; subst hq
    exact (m2 _).2 (.inr ⟨rfl, h4⟩)
 ·rename_i hle
  refine ⟨h.asc, h.rng, h.zero, fun q hq h3 h4 => ?_, fun q hq h3 h4 => ?_⟩
  ·rcases List.mem_append.1 hq with hq | hq
   ·exact h.lo q hq h3 h4
   ·rw [List.mem_singleton] at hq; subst hq; omega
  ·rcases List.mem_append.1 hq with hq | hq
   ·exact h.hi q hq h3 h4
   ·rw [List.mem_singleton] at hq; subst hq; omega
theorem starts_ok_go {top : Int} : ∀ (l pre : List TRng) (s : List Int), (∀ r ∈ l, RIn r) → StOk s top pre → StOk (l.foldl (stepS top) s) top (pre ++ l)
 | [], pre, s, _, h => by rw [List.append_nil]; exact h
 | r :: l, pre, s, hin, h => by
  have := starts_ok_go l (pre ++ [r]) (stepS top s r) (fun q hq => hin q (List.mem_cons_of_mem _ hq)) (h.step (hin r (List.mem_cons_self ..)))
  rw [List.append_assoc] at this
  exact this
theorem starts_ok {top : Int} (ht : 0 ≤ top) {l : List TRng} (h : ∀ r ∈ l, RIn r) : StOk (starts l top) top l := by
 have := starts_ok_go (top := top) l [] [0] h ⟨List.pairwise_singleton _ _, by simp; omega, by simp, by simp, by simp⟩
 rwa [List.nil_append] at this
theorem stepS_len (top : Int) (s : List Int) (r : TRng) : (stepS top s r).length ≤ s.length + 2 := by
 unfold stepS
 split
 ·have := ins_len (ins s r.lo top) (r.hi + 1) top
  have := ins_len s r.lo top
  omega
 ·omega
theorem starts_len_go (top : Int) : ∀ (l : List TRng) (s : List Int), (l.foldl (stepS top) s).length ≤ s.length + 2 * l.length
 | [], s => by simp
 | r :: l, s => by
  have := starts_len_go top l (stepS top s r)
  have := stepS_len top s r
  simp only [List.foldl_cons, List.length_cons]
  omega
theorem starts_len (l : List TRng) (top : Int) : (starts l top).length ≤ 1 + 2 * l.length := starts_len_go top l [0]
def memB (l : List TRng) (v : Int) : Bool := l.any fun r => decide (r.lo ≤ v) && decide (v ≤ r.hi)
theorem memB_iff (l : List TRng) (v : Int) : memB l v = true ↔ mem l v := by
 unfold memB mem
 rw [List.any_eq_true]
 constructor
 ·rintro ⟨r, hr, h⟩
  rw [Bool.and_eq_true, decide_eq_true_eq, decide_eq_true_eq] at h
  exact ⟨r, hr, h⟩
 ·rintro ⟨r, hr, h⟩
  exact ⟨r, hr, by rw [Bool.and_eq_true, decide_eq_true_eq, decide_eq_true_eq]; exact h⟩
def segEnd (s : List Int) (top : Int) (i : Nat) : Int := if i + 1 < s.length then s.getD (i + 1) 0 - 1 else top
def putSeg (out : List TRng) (x e : Int) : List TRng := if 0 < out.length ∧ (out.getD (out.length - 1) default).hi + 1 = x then out.take (out.length - 1) ++ [⟨(out.getD (out.length - 1) default).lo, e⟩] else out ++ [⟨x, e⟩]
def kst (φ : Int → Bool) (s : List Int) (top : Int) : Nat → List TRng
 | 0 => []
 | i + 1 => if φ (s.getD i 0) = true then putSeg (kst φ s top i) (s.getD i 0) (segEnd s top i) else kst φ s top i
theorem putSeg_ok {out : List TRng} {x e : Int} (hc : Can out) (hx : x ≤ e) (hl : ∀ r ∈ out, r.hi < x) : Can (putSeg out x e) ∧ (∀ v, mem (putSeg out x e) v ↔ mem out v ∨ (x ≤ v ∧ v ≤ e)) ∧ ∀ r ∈ putSeg out x e, r.hi ≤ e := by
 unfold putSeg
 rcases List.eq_nil_or_concat out with rfl | ⟨a, q, rfl⟩
 ·rw [if_neg (by simp)]
  refine ⟨.one hx, fun v => ?_, by simp⟩
  simp only [List.nil_append]
  rw [mem_cons]
  simp [mem_nil]
 ·simp only [List.concat_eq_append] at *
  obtain ⟨ca, hq, hs⟩ := hc.snoc_inv
  have hg : (a ++ [q]).getD ((a ++ [q]).length - 1) default = q := by simp [List.getD]
  rw [hg]
  have hqx := hl q (by simp)
  split
  ·rename_i h
   rw [show (a ++ [q]).take ((a ++ [q]).length - 1) = a by simp]
   refine ⟨ca.append (.one (by dsimp only; omega)) fun y hy z hz => by rw [List.mem_singleton] at hz; subst hz; exact hs y hy, fun v => ?_, fun r hr => ?_⟩
   ·rw [mem_snoc, mem_snoc]
    dsimp only
    constructor
    ·rintro (h1 | h1)
     ·exact .inl (.inl h1)
     ·by_cases h2 : v ≤ q.hi
      ·exact .inl (.inr ⟨h1.1, h2⟩)
      ·exact .inr ⟨by omega, h1.2⟩
    ·rintro ((h1 | h1) | h1)
     ·exact .inl h1
     ·exact .inr ⟨h1.1, by omega⟩
     ·exact .inr ⟨by omega, h1.2⟩
   ·rcases List.mem_append.1 hr with hr | hr
    ·have := hl r (by simp [hr]); omega
    ·rw [List.mem_singleton] at hr; subst hr; exact Int.le_refl _
  ·rename_i h
   refine ⟨hc.append (.one hx) fun y hy z hz => ?_, fun v => mem_snoc, fun r hr => ?_⟩
   ·rw [List.mem_singleton] at hz; subst hz
    dsimp only
    rcases List.mem_append.1 hy with hy | hy
    ·have := hs y hy
     omega
    ·rw [List.mem_singleton] at hy; subst hy
     have : ¬ y.hi + 1 = x := fun e => h ⟨by simp, e⟩
     omega
   ·rcases List.mem_append.1 hr with hr | hr
    ·have := hl r hr; omega
    ·rw [List.mem_singleton] at hr; subst hr; exact Int.le_refl _
theorem asc_getD {s : List Int} (h : Asc s) {i j : Nat} (hij : i < j) (hj : j < s.length) : s.getD i 0 < s.getD j 0 := by
 have := List.pairwise_iff_getElem.1 h i j (by omega) hj hij
 rw [List.getD, List.getD, List.getElem?_eq_getElem (by omega), List.getElem?_eq_getElem hj]
 exact this
theorem getD_mem' {s : List Int} {i : Nat} (h : i < s.length) : s.getD i 0 ∈ s := by
 rw [List.getD, List.getElem?_eq_getElem h]; exact List.getElem_mem h
theorem seg_free {s : List Int} {top : Int} (ha : Asc s) (_hr : ∀ x ∈ s, 0 ≤ x ∧ x ≤ top) {i : Nat} (hi : i < s.length) {v : Int} (h1 : s.getD i 0 < v) (h2 : v ≤ segEnd s top i) : v ∉ s := by
 intro hv
 obtain ⟨j, hj⟩ := List.mem_iff_getElem?.1 hv
 have hjl := (List.getElem?_eq_some_iff.1 hj).1
 have hjv : s.getD j 0 = v := by rw [List.getD, hj]; rfl
 unfold segEnd at h2
 by_cases hji : j ≤ i
 ·rcases Nat.lt_or_eq_of_le hji with h | h
  ·have := asc_getD ha h hi; omega
  ·subst h; omega
 ·rw [if_pos (by omega)] at h2
  by_cases hj1 : j = i + 1
  ·subst hj1; omega
  ·have := asc_getD ha (show i + 1 < j by omega) hjl
   omega
theorem seg_const {s : List Int} {top : Int} {l : List TRng} (h : StOk s top l) {a : List TRng} (hsub : ∀ r ∈ a, r ∈ l) {i : Nat} (hi : i < s.length) {v : Int} (h1 : s.getD i 0 ≤ v) (h2 : v ≤ segEnd s top i) : memB a v = memB a (s.getD i 0) := by
 have hx := h.rng _ (getD_mem' hi)
 have hvt : v ≤ top := by
  unfold segEnd at h2
  split at h2
  ·rename_i h3
   have := h.rng _ (getD_mem' h3)
   omega
  ·exact h2
 have hfree : ∀ u, s.getD i 0 < u → u ≤ v → u ∉ s := fun u g1 g2 => seg_free h.asc h.rng hi g1 (by omega)
 rw [Bool.eq_iff_iff, memB_iff, memB_iff]
 constructor
 ·rintro ⟨r, hr, g1, g2⟩
  refine ⟨r, hr, ?_, ?_⟩
  ·by_cases g3 : r.lo ≤ s.getD i 0
   ·exact g3
   ·exact (hfree r.lo (by omega) g1 (h.lo r (hsub r hr) (by omega) (by omega))).elim
  ·omega
 ·rintro ⟨r, hr, g1, g2⟩
  refine ⟨r, hr, by omega, ?_⟩
  by_cases g3 : v ≤ r.hi
  ·exact g3
  ·exact (hfree (r.hi + 1) (by omega) (by omega) (h.hi r (hsub r hr) (by omega) (by omega))).elim
theorem segEnd_ge {s : List Int} {top : Int} {l : List TRng} (h : StOk s top l) {i : Nat} (hi : i < s.length) : s.getD i 0 ≤ segEnd s top i ∧ segEnd s top i ≤ top := by
 unfold segEnd
 split
 ·rename_i h1
  have := asc_getD h.asc (show i < i + 1 by omega) h1
  have := (h.rng _ (getD_mem' h1)).2
  omega
 ·exact ⟨(h.rng _ (getD_mem' hi)).2, Int.le_refl _⟩
def segAt (s : List Int) (top : Int) (i : Nat) : Int := if i < s.length then s.getD i 0 else top + 1
theorem kst_ok {s : List Int} {top : Int} {l : List TRng} (h : StOk s top l) (φ : Int → Bool) (hφ : ∀ i, i < s.length → ∀ v, s.getD i 0 ≤ v → v ≤ segEnd s top i → φ v = φ (s.getD i 0)) :
  ∀ i, i ≤ s.length → Can (kst φ s top i) ∧ (∀ v, mem (kst φ s top i) v ↔ (0 ≤ v ∧ v < segAt s top i) ∧ φ v = true) ∧ ∀ r ∈ kst φ s top i, r.hi < segAt s top i
 | 0, _ => by
  have h0 : segAt s top 0 = 0 := by
   unfold segAt
   rw [if_pos (List.length_pos_of_mem h.zero)]
   obtain ⟨j, hj⟩ := List.mem_iff_getElem?.1 h.zero
   have hjl := (List.getElem?_eq_some_iff.1 hj).1
   have hjv : s.getD j 0 = 0 := by rw [List.getD, hj]; rfl
   rcases Nat.eq_zero_or_pos j with rfl | hp
   ·exact hjv
   ·have := asc_getD h.asc hp hjl
    have := (h.rng _ (getD_mem' (show 0 < s.length by omega))).1
    omega
  refine ⟨.nil, fun v => ?_, by simp [kst]⟩
  rw [h0]
  constructor
  ·intro hm; exact (mem_nil v hm).elim
  ·rintro ⟨⟨h1, h2⟩, _⟩; omega
 | i + 1, hi => by
  obtain ⟨h1, h2, h3⟩ := kst_ok h φ hφ i (by omega)
  have hil : i < s.length := by omega
  have hge := segEnd_ge h hil
  have hx0 := (h.rng _ (getD_mem' hil)).1
  have e0 : segAt s top i = s.getD i 0 := by unfold segAt; rw [if_pos hil]
  have e1 : segAt s top (i + 1) = segEnd s top i + 1 := by unfold segAt segEnd; split <;> omega
  rw [e0] at h2 h3
  rw [e1]
  unfold kst
  split
  ·rename_i hp
   obtain ⟨g1, g2, g3⟩ := putSeg_ok h1 hge.1 h3
   refine ⟨g1, fun v => ?_, fun r hr => by have := g3 r hr; omega⟩
   rw [g2, h2]
   constructor
   ·rintro (⟨q1, q2⟩ | q)
    ·exact ⟨⟨q1.1, by omega⟩, q2⟩
    ·exact ⟨⟨by omega, by omega⟩, by rw [hφ i hil v q.1 q.2]; exact hp⟩
   ·rintro ⟨q1, q2⟩
    by_cases hv : v < s.getD i 0
    ·exact .inl ⟨⟨q1.1, hv⟩, q2⟩
    ·exact .inr ⟨by omega, by omega⟩
  ·rename_i hp
   refine ⟨h1, fun v => ?_, fun r hr => by have := h3 r hr; omega⟩
   rw [h2]
   constructor
   ·rintro ⟨q1, q2⟩; exact ⟨⟨q1.1, by omega⟩, q2⟩
   ·rintro ⟨q1, q2⟩
    by_cases hv : v < s.getD i 0
    ·exact ⟨⟨q1.1, hv⟩, q2⟩
    ·rw [hφ i hil v (by omega) (by omega)] at q2
     exact absurd q2 hp
def phi (c : Int) (a b : List TRng) (v : Int) : Bool := if c = 1 then memB a v && memB b v else memB a v || memB b v
def keepL (c : Int) (a b : List TRng) (top : Int) : List TRng := kst (phi c a b) (starts (a ++ b) top) top (starts (a ++ b) top).length
theorem keepL_ok (c : Int) {a b : List TRng} {top : Int} (ht : 0 ≤ top) (ha : ∀ r ∈ a, RIn r) (hb : ∀ r ∈ b, RIn r) : Can (keepL c a b top) ∧ ∀ v, mem (keepL c a b top) v ↔ (0 ≤ v ∧ v ≤ top) ∧ phi c a b v = true := by
 have hs : StOk (starts (a ++ b) top) top (a ++ b) := starts_ok ht fun r hr => by
  rcases List.mem_append.1 hr with hr | hr
  ·exact ha r hr
  ·exact hb r hr
 obtain ⟨h1, h2, _⟩ := kst_ok hs (phi c a b) (fun i hi v g1 g2 => by
  unfold phi
  rw [seg_const hs (fun r hr => List.mem_append_left _ hr) hi g1 g2, seg_const hs (fun r hr => List.mem_append_right _ hr) hi g1 g2]) _ (Nat.le_refl _)
 refine ⟨h1, fun v => ?_⟩
 unfold keepL
 rw [h2]
 have : segAt (starts (a ++ b) top) top (starts (a ++ b) top).length = top + 1 := by unfold segAt; rw [if_neg (by omega)]
 rw [this]
 constructor
 ·rintro ⟨q1, q2⟩; exact ⟨by omega, q2⟩
 ·rintro ⟨q1, q2⟩; exact ⟨by omega, q2⟩
theorem keepL_canon {a : List TRng} (ha : ∀ r ∈ a, RIn r) : keepL 0 a [] 4294967295 = canon a := by
 obtain ⟨h1, h2⟩ := keepL_ok 0 (top := 4294967295) (b := []) (by omega) ha (by simp)
 refine canon_uniq h1 fun v => ?_
 rw [h2]
 unfold phi
 rw [if_neg (by decide), Bool.or_eq_true, memB_iff, memB_iff]
 constructor
 ·rintro ⟨_, h | h⟩
  ·exact h
  ·exact (mem_nil v h).elim
 ·intro h
  refine ⟨?_, .inl h⟩
  obtain ⟨r, hr, g1, g2⟩ := h
  have := ha r hr
  unfold RIn at this
  omega
variable {Gl : Glob}
attribute [local irreducible] PW PWL OpP PCalls PWO PWT bothT
theorem c_contains (l : List TRng) (v : Int) (hl : l.length < 4294967296) : PFun Tryz.prog Gl 158 [.sl (l.map eRng), .int .u32 v] fun r => r = .bool (memB l v) := by
 (refine PFun.of hT Tryz.func158 rfl fun B hD => ?_; refine pw_norm rfl ?_)
 (repeat' (first | refine zS ?_ | refine zq5 ?_ | refine zq6 ?_ | (refine zT ?_ ?_ <;> intro h <;> first | exact zX | refine zNq ?_)))
 refine pw_for hD (fun i : Nat => [(5, .int .i64 i)]) (fun _ => []) (fun i => i ≤ l.length ∧ memB l v = memB (l.drop i) v) (fun i => l.length - i) 0 ⟨Nat.zero_le _, rfl⟩ 0 rfl (fun _ => rfl) zLes (fun _ => rfl) (fun _ => rfl) zLe ?_
 rintro i ⟨hi, hm⟩
 have hst : i < l.length → memB (l.drop i) v = ((decide ((l.getD i default).lo ≤ v) && decide (v ≤ (l.getD i default).hi)) || memB (l.drop (i + 1)) v) := fun h => by
  rw [List.drop_eq_getElem_cons h, List.getD, List.getElem?_eq_getElem h]; rfl
 (repeat' (first | refine zS ?_ | refine zq5 ?_ | refine zq6 ?_ | (refine zT ?_ ?_ <;> intro h <;> first | exact zX | refine zNq ?_)))
 ·rw [hm, hst (by omega), decide_eq_true h.1, decide_eq_true h.2]
  exact ret2 _ rfl rfl rfl
 ·refine ⟨i + 1, ⟨by omega, ?_⟩, by omega, zLe, zLes⟩
  rw [hm, hst (by omega)]
  have : (decide ((l.getD i default).lo ≤ v) && decide (v ≤ (l.getD i default).hi)) = false := by
   rw [Bool.eq_false_iff, ne_eq, Bool.and_eq_true, decide_eq_true_eq, decide_eq_true_eq]; exact h
  rw [this, Bool.false_or]
 ·rw [hm, List.drop_eq_nil_of_le (by omega)]
  exact ret2 _ rfl rfl rfl
instance (l : List TRng) (v : Int) : ConF Tryz.prog Gl 158 [.sl (l.map eRng), .int .u32 v] (l.length < 4294967296) (.bool (memB l v)) := ⟨e158, fun h => c_contains l v h⟩
abbrev eU64 (v : Int) : PV := .int .u64 v
theorem c_insert (l : List Int) (v top : Int) (hl : l.length < 4294967296) (_hv : 0 ≤ v ∧ v < 4294967297) (ht : 0 ≤ top ∧ top < 4294967296) : PFun Tryz.prog Gl 192 [.sl (l.map eU64), .int .u64 v, .int .u32 top] fun r => r = .sl ((ins l v top).map eU64) := by
 (refine PFun.of hT Tryz.func192 rfl fun B hD => ?_; refine pw_norm rfl ?_)
 unfold ins
 (repeat' (first | refine zS ?_ | refine zq5 ?_ | refine zq6 ?_ | (refine zT ?_ ?_ <;> intro h <;> first | exact zX | refine zNq ?_)))
 ·rw [if_pos h]
  exact ret2 _ rfl rfl rfl
 rw [if_neg h]
 refine pw_for hD (fun i : Nat => [(7, .int .i64 i)]) (fun _ => []) (fun i => i ≤ l.length ∧ ∀ j, j < i → l.getD j 0 < v) (fun i => l.length - i) 0 ⟨Nat.zero_le _, fun j h => by omega⟩ 0 rfl (fun _ => rfl) zLes (fun _ => rfl) (fun _ => rfl) zLe ?_
 rintro i ⟨hi, hc⟩
 (repeat' (first | refine zS ?_ | refine zq5 ?_ | refine zq6 ?_ | (refine zT ?_ ?_ <;> intro h <;> first | exact zX | refine zNq ?_)))
 ·refine ⟨i + 1, ⟨by omega, fun j hj => ?_⟩, by omega, zLe, zLes⟩
  rcases Nat.lt_succ_iff_lt_or_eq.1 hj with hj | rfl
  ·exact hc j hj
  ·exact h.2
 ·rename_i h1
  rw [ins1_at l v i hi hc (fun hh q => h1 ⟨by omega, q⟩), if_pos ⟨by omega, h.2⟩]
  exact ret2 _ rfl rfl rfl
 ·rename_i h1
  rw [ins1_at l v i hi hc (fun hh q => h1 ⟨by omega, q⟩), if_neg (by rintro ⟨q1, q2⟩; exact h ⟨by omega, q2⟩)]
  have hl1 : (l.take i).length = i := by rw [List.length_take]; omega
  have hl2 : (l.drop i).length = l.length - i := List.length_drop ..
  refine zDr [[1,2,3,5,6,8,9,10],[0,4,7,11],[12]] ?_
  refine zDn ?_
  refine zD ?_
  (refine po_step rfl rfl (op_litm hT rfl rfl rfl rfl rfl (by decide) rfl rfl rfl rfl ⟨zLok, ?_⟩); refine zDn ?_)
  (refine po_step rfl rfl (op_appendX (b := 8) hT rfl rfl rfl rfl (by simp) rfl (by first | rfl | (simp only [List.all_map]; exact List.all_eq_true.2 fun _ _ => rfl)) (by first | rfl | (simp only [List.all_map]; exact List.all_eq_true.2 fun _ _ => rfl)) (by simp; omega) (fun cap1 hcap => ⟨(by (repeat (first | exact True.intro | refine ⟨.inr rfl, ?_⟩ | refine ⟨.inl (by decide +kernel), ?_⟩))), ?_⟩)); (first | refine po_norm rfl ?_ | refine po_normE rfl ?_))
  (refine po_step rfl rfl (op_appendX (b := 8) hT rfl rfl rfl rfl (by simp) rfl (by first | rfl | (simp only [List.all_map]; exact List.all_eq_true.2 fun _ _ => rfl)) (by first | rfl | (simp only [List.all_map]; exact List.all_eq_true.2 fun _ _ => rfl)) (by simp; omega) (fun cap2 hcap => ⟨(by (repeat (first | exact True.intro | refine ⟨.inr rfl, ?_⟩ | refine ⟨.inl (by decide +kernel), ?_⟩))), ?_⟩)); (first | refine po_norm rfl ?_ | refine po_normE rfl ?_))
  (refine po_step rfl rfl (op_appendX (b := 8) hT rfl rfl rfl rfl (by simp) rfl (by first | rfl | (simp only [List.all_map]; exact List.all_eq_true.2 fun _ _ => rfl)) (by first | rfl | (simp only [List.all_map]; exact List.all_eq_true.2 fun _ _ => rfl)) (by simp; omega) (fun cap3 hcap => ⟨(by (repeat (first | exact True.intro | refine ⟨.inr rfl, ?_⟩ | refine ⟨.inl (by decide +kernel), ?_⟩))), ?_⟩)); (first | refine po_norm rfl ?_ | refine po_normE rfl ?_))
  refine zD ?_
  (repeat' (first | refine zS ?_ | refine zq5 ?_ | refine zq6 ?_ | (refine zT ?_ ?_ <;> intro h <;> first | exact zX | refine zNq ?_)))
  refine ret0 _ (.sl ([] ++ (l.take i).map eU64 ++ [.int .u64 v] ++ (l.drop i).map eU64)) rfl ?_ (.inr (.inr (.inr (.inl ⟨_, _, _, _, _, _, rfl, rfl, rfl, by simp; omega, rfl⟩)))) rfl
  simp
instance (l : List Int) (v top : Int) : ConF Tryz.prog Gl 192 [.sl (l.map eU64), .int .u64 v, .int .u32 top] (l.length < 4294967296 ∧ (0 ≤ v ∧ v < 4294967297) ∧ 0 ≤ top ∧ top < 4294967296) (.sl ((ins l v top).map eU64)) := ⟨e192, fun h => c_insert l v top h.1 h.2.1 h.2.2⟩
theorem rng_at {l : List TRng} (hin : ∀ r ∈ l, RIn r) (k : Nat) : RIn (l.getD k default) := by
 rw [List.getD]
 cases e : l[k]? with
 | none => exact ⟨by decide, by decide⟩
 | some x => exact hin x (List.mem_of_getElem? e)
theorem c_starts (l : List TRng) (top : Int) (hl : l.length < 1000000) (ht : 0 ≤ top ∧ top < 4294967296) (hin : ∀ r ∈ l, RIn r) : PFun Tryz.prog Gl 157 [.sl (l.map eRng), .int .u32 top] fun r => r = .sl ((starts l top).map eU64) := by
 (refine PFun.of hT Tryz.func157 rfl fun B hD => ?_; refine pw_norm rfl ?_)
 (repeat' (first | refine zS ?_ | (refine zT ?_ ?_ <;> intro h <;> first | exact zX | refine zNq ?_)))
 refine pw_for hD (fun i : Nat => [(5, .sl (((l.take i).foldl (stepS top) [0]).map eU64)), (6, .int .i64 i)]) (fun _ => []) (fun i => i ≤ l.length) (fun i => l.length - i) 0 (Nat.zero_le _) 0 rfl (fun _ => rfl) zLes (fun _ => rfl) (fun _ => rfl) zLe ?_
 intro i hi
 have hr := rng_at hin i
 unfold RIn at hr
 have hfl := starts_len_go top (l.take i) [0]
 have htl : (l.take i).length ≤ i := List.length_take_le ..
 have hn : i < l.length → (l.take (i + 1)).foldl (stepS top) [0] = stepS top ((l.take i).foldl (stepS top) [0]) (l.getD i default) := fun h => by
  rw [List.take_succ_eq_append_getElem h, List.foldl_append, List.getD, List.getElem?_eq_getElem h]; rfl
 have hz : ([0] : List Int).length = 1 := rfl
 generalize hs : (l.take i).foldl (stepS top) [0] = s at hfl hn ⊢
 have hil := ins_len s (l.getD i default).lo top
 (repeat' (first | (refine zDr [[0,1,2,3,4,5,6,7,8,9,10]] ?_; refine zDn ?_) | (refine zDr [[0,1,2,3,4,5,6,7,9,10,11,12,13,14,15,16],[8,17],[18]] ?_; refine zDn ?_) | refine zS ?_ | refine zD ?_ | refine po_both ?_ ?_ | refine pwt_both ?_ ?_ | refine pwt_fork ?_ | refine pwt_lin ?_ | (refine po_test rfl rfl rfl rfl zB ?_ ?_ <;> intro hb <;> first | exact zX | refine zDn ?_) | (refine zT ?_ ?_ <;> intro h <;> first | exact zX | refine zNq ?_)))
 ·refine ⟨i + 1, by omega, by omega, ?_, zLes⟩
  rw [hn (by omega)]
  unfold stepS
  rw [if_pos h]
  (exact zLe)
 ·refine ⟨i + 1, by omega, by omega, ?_, zLes⟩
  rw [hn (by omega)]
  unfold stepS
  rw [if_neg h]
  (exact zLe)
 ·have hie : i = l.length := by omega
  subst hie
  rw [List.take_length] at hs
  subst hs
  exact ret2 _ rfl rfl rfl
instance (l : List TRng) (top : Int) : ConF Tryz.prog Gl 157 [.sl (l.map eRng), .int .u32 top] (l.length < 1000000 ∧ (0 ≤ top ∧ top < 4294967296) ∧ ∀ r ∈ l, RIn r) (.sl ((starts l top).map eU64)) := ⟨e157, fun h => c_starts l top h.1 h.2.1 h.2.2⟩
theorem kst_in {φ : Int → Bool} {s : List Int} {top : Int} {l : List TRng} (h : StOk s top l) (ht : top < 4294967296) : ∀ i, i ≤ s.length → ∀ r ∈ kst φ s top i, RIn r
 | 0, _, r, hr => by simp [kst] at hr
 | i + 1, hi, r, hr => by
  have ih := kst_in h ht i (by omega) (φ := φ)
  have hx := h.rng _ (getD_mem' (show i < s.length by omega))
  have he := segEnd_ge h (show i < s.length by omega)
  unfold kst at hr
  split at hr
  ·unfold putSeg at hr
   split at hr
   ·rename_i h1
    rcases List.mem_append.1 hr with hr | hr
    ·exact ih r (List.mem_of_mem_take hr)
    ·rw [List.mem_singleton] at hr; subst hr
     have := rng_at ih ((kst φ s top i).length - 1)
     unfold RIn at this ⊢
     dsimp only
     omega
   ·rcases List.mem_append.1 hr with hr | hr
    ·exact ih r hr
    ·rw [List.mem_singleton] at hr; subst hr
     unfold RIn
     dsimp only
     omega
  ·exact ih r hr
theorem kst_len (φ : Int → Bool) (s : List Int) (top : Int) : ∀ i, (kst φ s top i).length ≤ i
 | 0 => Nat.le_refl _
 | i + 1 => by
  have := kst_len φ s top i
  unfold kst
  split
  ·unfold putSeg
   split
   ·simp; omega
   ·simp; omega
  ·omega
theorem c_keepU (a b : List TRng) (top : Int) (hla : a.length < 100000) (hlb : b.length < 100000) (ht : 0 ≤ top ∧ top < 4294967296) (ha : ∀ r ∈ a, RIn r) (hb : ∀ r ∈ b, RIn r) : PFun Tryz.prog Gl 126 [.sl (a.map eRng), .sl (b.map eRng), .int .i64 0, .int .u32 top] fun r => r = .sl ((keepL 0 a b top).map eRng) := by
 (refine PFun.of hT Tryz.func126 rfl fun B hD => ?_; refine pw_norm rfl ?_)
 have hab : ∀ r ∈ a ++ b, RIn r := fun r hr => by
  rcases List.mem_append.1 hr with hr | hr
  ·exact ha r hr
  ·exact hb r hr
 have hll : (a ++ b).length = a.length + b.length := List.length_append
 unfold keepL
 have hst := starts_ok ht.1 hab
 have hsl := starts_len (a ++ b) top
 (repeat' (first | refine zSm ?_ | refine zq5 ?_ | refine zq6 ?_ | (refine zT ?_ ?_ <;> intro h <;> first | exact zX | refine zNq ?_)))
 (refine pl_op rfl (op_litm hT rfl rfl rfl rfl rfl (by decide) rfl rfl rfl rfl ?_); (refine zNp ?_))
 (repeat' (first | refine zSm ?_ | refine zq5 ?_ | refine zq6 ?_ | (refine zT ?_ ?_ <;> intro h <;> first | exact zX | refine zNq ?_)))
 (refine pl_appendN (b := 8) hT hD rfl rfl rfl rfl rfl rfl rfl rfl ?_ ?_ (by simp; omega) (fun c1 hcap => ?_); (focus (simp only [List.all_map]; exact List.all_eq_true.2 fun _ _ => rfl)); (focus (simp only [List.all_map]; exact List.all_eq_true.2 fun _ _ => rfl)); (refine zNp ?_))
 refine pl_normV rfl ?_
 refine zNp ?_
 (repeat' (first | refine zSm ?_ | refine zq5 ?_ | refine zq6 ?_ | (refine zT ?_ ?_ <;> intro h <;> first | exact zX | refine zNq ?_)))
 (refine pl_op rfl (op_appendX (b := 8) hT rfl rfl rfl rfl (by simp) rfl (by simp only [List.all_map]; exact List.all_eq_true.2 fun _ _ => rfl) (by simp only [List.all_map]; exact List.all_eq_true.2 fun _ _ => rfl) (by simp; omega) (fun c2 _ => ?_)); refine zNp ?_)
 refine pl_frz1 1 21 rfl rfl (by simp) ?_
 refine pl_normV rfl ?_
 refine zNp ?_
 rw [← List.map_append]
 (repeat' (first | refine zS ?_ | refine zq5 ?_ | refine zq6 ?_ | (refine zT ?_ ?_ <;> intro h <;> first | exact zX | refine zNq ?_)))
 generalize starts (a ++ b) top = s at hst hsl ⊢
 refine pw_ghost 2 ?_
 refine zNq ?_
 have hki := kst_in hst ht.2 (φ := phi 0 a b)
 have hkl := kst_len (phi 0 a b) s top
 refine pw_for hD (fun x : Nat × Nat => [(10, .msl 2 2 0 ((kst (phi 0 a b) s top x.1).map eRng).length x.2), (11, .int .i64 x.1)]) (fun x => [.dead, .dead, .arr 2 ((kst (phi 0 a b) s top x.1).map eRng) x.2]) (fun x => x.1 ≤ s.length) (fun x => s.length - x.1) (0, 0) (Nat.zero_le _) 3 rfl (fun _ => rfl) zLes (fun _ => rfl) (fun _ => rfl) zLe ?_
 rintro ⟨i, cap⟩ hi
 dsimp only at hi ⊢
 have hx : i < s.length → 0 ≤ s.getD i default ∧ s.getD i default ≤ top := fun h => hst.rng _ (getD_mem' h)
 have hx1 : i + 1 < s.length → s.getD i default < s.getD (i + 1) default ∧ s.getD (i + 1) default ≤ top := fun h => ⟨asc_getD hst.asc (Nat.lt_succ_self i) h, (hst.rng _ (getD_mem' h)).2⟩
 have hse : i < s.length → s.getD i default ≤ segEnd s top i ∧ segEnd s top i ≤ top := fun h => segEnd_ge hst h
 have hk1 := hkl i
 have hk2 := hki i hi
 have hnext : kst (phi 0 a b) s top (i + 1) = if (memB a (s.getD i default) || memB b (s.getD i default)) = true then putSeg (kst (phi 0 a b) s top i) (s.getD i default) (segEnd s top i) else kst (phi 0 a b) s top i := rfl
 (repeat' (first | refine zS ?_ | refine zq5 ?_ | refine zq6 ?_))
 refine zT ?_ ?_ <;> intro h <;> refine zNq ?_
 ·have hlt : i < s.length := by omega
  have hx := hx hlt
  have hse := hse hlt
  (repeat' (first | refine zS ?_ | refine zq5 ?_ | refine zq6 ?_))
  refine pw_join hD True [(12, .int .u64 (segEnd s top i)), (36, .any)] [.dead, .dead, .arr 2 ((kst (phi 0 a b) s top i).map eRng) cap] 3 rfl rfl rfl rfl ?_ (fun _ => ?_)
  ·refine zT ?_ ?_ <;> intro h1 <;> refine zNq ?_
   ·rw [show segEnd s top i = s.getD (i + 1) default - 1 from if_pos (by omega)]
    have hx1 := hx1 (by omega)
    (repeat' (first | refine zS ?_ | refine zq5 ?_ | refine zq6 ?_))
    exact ⟨trivial, zLe, zLes⟩
   ·rw [show segEnd s top i = top from if_neg (by omega)]
    (repeat' (first | refine zS ?_ | refine zq5 ?_ | refine zq6 ?_))
    exact ⟨trivial, zLe, zLes⟩
  refine pw_room 2 rfl fun hroom => ?_
  rw [List.length_map] at hroom
  generalize segEnd s top i = e at hse hnext ⊢
  generalize kst (phi 0 a b) s top i = out at hk1 hk2 hnext hroom ⊢
  (repeat' (first | (refine zDr [[0,1,2,3,4,5,6,7,8,9,10,11,12,13,14,15,16]] ?_; refine zDn ?_) | (refine zDr [[0,1,2,3,4,5,7,8,9,10,11,12],[6,13],[14,15]] ?_; refine zDn ?_) | refine zS ?_ | refine zD ?_ | refine po_both ?_ ?_ | refine pwt_both ?_ ?_ | refine pwt_fork ?_ | refine pwt_lin ?_ | (refine po_test rfl rfl rfl rfl zB ?_ ?_ <;> intro hb <;> first | exact zX | refine zDn ?_) | refine zq5 ?_ | refine zq6 ?_))
  refine zT ?_ ?_ <;> intro h2 <;> refine zNq ?_
  ·rw [if_neg (by rw [Bool.or_eq_true]; exact h2)] at hnext
   (repeat' (first | refine zS ?_ | refine zq5 ?_ | refine zq6 ?_))
   refine ⟨(i + 1, cap), hlt, by dsimp only; omega, ?_, ?_⟩
   all_goals simp only [hnext]
   ·(exact zLe)
   ·(exact zLes)
  rw [if_pos (by rw [Bool.or_eq_true]; exact Decidable.not_not.1 h2)] at hnext
  unfold putSeg at hnext
  rcases List.eq_nil_or_concat out with rfl | ⟨p, q, rfl⟩
  ·have hnl : ([] : List TRng).length = 0 := rfl
   rw [if_neg (by simp)] at hnext
   (repeat' (first | (refine zDr [[0,1,2,3,4,5,6,7,8,9,10,11,12,13,14,15,16]] ?_; refine zDn ?_) | (refine zDr [[0,1,2,3,4,5,7,8,9,10,11,12],[6,13],[14,15]] ?_; refine zDn ?_) | refine zS ?_ | refine zD ?_ | refine po_both ?_ ?_ | refine pwt_both ?_ ?_ | refine pwt_fork ?_ | refine pwt_lin ?_ | (refine po_test rfl rfl rfl rfl zB ?_ ?_ <;> intro hb <;> first | exact zX | refine zDn ?_) | refine zq5 ?_ | refine zq6 ?_ | (refine zT ?_ ?_ <;> intro h <;> first | exact zX | refine zNq ?_)))
   (refine pl_append (b := 8) hT hD rfl rfl rfl rfl rfl rfl rfl rfl (.inl (Nat.zero_lt_succ _)) rfl rfl (by simp) (fun cap2 _ hcap => ?_); (refine zNp ?_))
   (repeat' (first | refine zS ?_ | refine zq5 ?_ | refine zq6 ?_ | (refine zT ?_ ?_ <;> intro h <;> first | exact zX | refine zNq ?_)))
   refine ⟨(i + 1, cap2), hlt, by dsimp only; omega, ?_, ?_⟩
   all_goals simp only [hnext]
   ·(exact zLe)
   ·(exact zLes)
  ·rw [List.concat_eq_append] at *
   have hq := hk2 q (by simp)
   have hll : (p ++ [q]).length = p.length + 1 := by simp
   unfold RIn at hq
   have hc0 : cap ≠ 0 := by omega
   have hix : ((p ++ [q]).map eRng)[0 + (((p ++ [q]).length : Int) - 1).toNat]? = some (eRng q) := by rw [show 0 + (((p ++ [q]).length : Int) - 1).toNat = p.length by omega]; simp
   have hgd : (p ++ [q]).getD ((p ++ [q]).length - 1) default = q := by simp [List.getD]
   have htk : (p ++ [q]).take ((p ++ [q]).length - 1) = p := by simp
   rw [hgd, htk] at hnext
   (repeat' (first | (refine zDr [[0,1,2,3,4,5,6,7,8,9,10,11,12,13,14,15,16]] ?_; refine zDn ?_) | (refine zDr [[0,1,2,3,4,5,7,8,9,10,11,12],[6,13],[14,15]] ?_; refine zDn ?_) | refine zS ?_ | refine zD ?_ | refine po_both ?_ ?_ | refine pwt_both ?_ ?_ | refine pwt_fork ?_ | refine pwt_lin ?_ | (refine po_test rfl rfl rfl rfl zB ?_ ?_ <;> intro hb <;> first | exact zX | refine zDn ?_) | refine zq5 ?_ | refine zq6 ?_ | (refine zT ?_ ?_ <;> intro h <;> first | exact zX | refine zNq ?_)))
   (refine po_gval rfl rfl rfl (v_indexm hT rfl rfl rfl rfl rfl (by omega) (by simp; omega) hc0) ?_; refine zDn ?_)
   refine zD ?_
   (refine po_gloadE (x0 := eRng q) rfl rfl rfl hT rfl rfl rfl rfl rfl (hc0) (hix) rfl ?_; (first | refine po_norm rfl ?_ | refine po_normE rfl ?_))
   (repeat' (first | (refine zDr [[0,1,2,3,4,5,6,7,8,9,10,11,12,13,14,15,16]] ?_; refine zDn ?_) | (refine zDr [[0,1,2,3,4,5,7,8,9,10,11,12],[6,13],[14,15]] ?_; refine zDn ?_) | refine zS ?_ | refine zD ?_ | refine po_both ?_ ?_ | refine pwt_both ?_ ?_ | refine pwt_fork ?_ | refine pwt_lin ?_ | (refine po_test rfl rfl rfl rfl zB ?_ ?_ <;> intro hb <;> first | exact zX | refine zDn ?_) | refine zq5 ?_ | refine zq6 ?_ | (refine zT ?_ ?_ <;> intro h <;> first | exact zX | refine zNq ?_)))
   ·rw [if_pos ⟨by omega, h⟩] at hnext
    (refine pl_op rfl (op_of (v_indexm hT rfl rfl rfl rfl rfl (by omega) (by simp; omega) hc0) ?_); (refine zNp ?_))
    (repeat' (first | refine zS ?_ | refine zq5 ?_ | refine zq6 ?_ | (refine zT ?_ ?_ <;> intro h <;> first | exact zX | refine zNq ?_)))
    (refine pl_op rfl (op_storeE' (x0 := eRng q) (x1 := eRng ⟨q.lo, e⟩) (xs' := (p ++ [(⟨q.lo, e⟩ : TRng)]).map eRng) hT rfl rfl rfl rfl rfl (hc0) (hix) rfl rfl rfl rfl (Nat.le_of_ble_eq_true rfl) rfl (by rw [show 0 + (((p ++ [q]).length : Int) - 1).toNat = p.length by omega]; simp) ?_); (refine zNp ?_))
    (repeat' (first | refine zS ?_ | refine zq5 ?_ | refine zq6 ?_ | (refine zT ?_ ?_ <;> intro h <;> first | exact zX | refine zNq ?_)))
    refine ⟨(i + 1, cap), hlt, by dsimp only; omega, ?_, ?_⟩
    all_goals simp only [hnext, List.map_append, List.length_append, List.map_cons, List.map_nil]
    ·(exact zLe)
    ·(exact zLes)
   ·rw [if_neg (by rintro ⟨_, g⟩; exact h g)] at hnext
    (refine pl_append (b := 8) hT hD rfl rfl rfl rfl rfl rfl rfl rfl (.inl (Nat.zero_lt_succ _)) rfl rfl (by simp; omega) (fun cap2 _ hcap => ?_); (refine zNp ?_))
    (repeat' (first | refine zS ?_ | refine zq5 ?_ | refine zq6 ?_ | (refine zT ?_ ?_ <;> intro h <;> first | exact zX | refine zNq ?_)))
    refine ⟨(i + 1, cap2), hlt, by dsimp only; omega, ?_, ?_⟩
    all_goals simp only [hnext, List.map_append, List.length_append, List.map_cons, List.map_nil]
    ·(exact zLe)
    ·(exact zLes)
 ·have hie : i = s.length := by omega
  subst hie
  (repeat' (first | refine zS ?_ | refine zq5 ?_ | refine zq6 ?_ | (refine zT ?_ ?_ <;> intro h <;> first | exact zX | refine zNq ?_)))
  exact ret0 _ (.sl ((kst (phi 0 a b) s top s.length).map eRng)) rfl rfl (.inr (.inr (.inr (.inl ⟨_, _, _, _, _, _, rfl, rfl, rfl, rfl, rfl⟩)))) rfl
theorem c_ruunion (a : List TRng) (hla : a.length < 100000) (ha : ∀ r ∈ a, RIn r) : PFun Tryz.prog Gl 130 [.sl (a.map eRng), .sl []] fun r => r = .sl ((canon a).map eRng) := by
 (refine PFun.of hT Tryz.func130 rfl fun B hD => ?_; refine pw_norm rfl ?_)
 (repeat' (first | refine zS ?_ | (refine zT ?_ ?_ <;> intro h <;> first | exact zX | refine zNq ?_)))
 (refine pl_op rfl (op_fun (c_keepU a [] 4294967295 hla (by simp) ⟨by omega, by omega⟩ ha (by simp)) rfl rfl e126 zLe rfl (fun r hr => ?_)); subst hr; refine ⟨rfl, ?_⟩; (refine zNp ?_))
 (repeat' (first | refine zS ?_ | (refine zT ?_ ?_ <;> intro h <;> first | exact zX | refine zNq ?_)))
 rw [keepL_canon ha]
 exact ret2 _ rfl rfl rfl

end
end Go.Proofs.YtkaobkjcjodffaaGreatDoor