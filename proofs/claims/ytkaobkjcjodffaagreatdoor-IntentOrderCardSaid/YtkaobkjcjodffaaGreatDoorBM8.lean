/-
 Contracts of functions, walked over pure values.
-/
import Derived.Test.YtkaobkjcjodffaaGreatDoorBK4
import Derived.Test.YtkaobkjcjodffaaGreatDoorAPwBox
import Derived.Test.YtkaobkjcjodffaaGreatDoorAPwApX
set_option maxHeartbeats 20000000
set_option maxRecDepth 100000
namespace Go.Proofs.YtkaobkjcjodffaaGreatDoor
open Go Go.Pw
section
def Asc (l : List Int) : Prop := l.Pairwise (· < ·)
def ins1 : List Int → Int → List Int
 | [], v => [v]
 | x :: l, v => if x < v then x :: ins1 l v else if x = v then x :: l else v :: x :: l
def ins (l : List Int) (v top : Int) : List Int := if v > top then l else ins1 l v
theorem ins1_mem : ∀ (l : List Int) (v x : Int), x ∈ ins1 l v ↔ x ∈ l ∨ x = v
 | [], v, x => by simp [ins1]
 | y :: l, v, x => by
  unfold ins1
  split
  ·simp only [List.mem_cons, ins1_mem l v x, or_assoc]
  ·split
   ·rename_i h; subst h; simp only [List.mem_cons]; constructor
    ·intro h; exact .inl h
    ·rintro (h | h); exact h; exact .inl h
   ·simp only [List.mem_cons]
    constructor
    ·rintro (h | h | h); exact .inr h; exact .inl (.inl h); exact .inl (.inr h)
    ·rintro ((h | h) | h); exact .inr (.inl h); exact .inr (.inr h); exact .inl h
theorem ins1_asc : ∀ {l : List Int} {v : Int}, Asc l → Asc (ins1 l v)
 | [], v, _ => List.pairwise_singleton _ _
 | y :: l, v, h => by
  unfold Asc at h ⊢
  rw [List.pairwise_cons] at h
  unfold ins1
  split
  ·rename_i h1
   refine List.pairwise_cons.2 ⟨fun x hx => ?_, ins1_asc h.2⟩
   rcases (ins1_mem l v x).1 hx with hx | hx
   ·exact h.1 x hx
   ·omega
  ·split
   ·exact List.pairwise_cons.2 h
   ·refine List.pairwise_cons.2 ⟨fun x hx => ?_, List.pairwise_cons.2 h⟩
    rcases List.mem_cons.1 hx with rfl | hx
    ·omega
    ·have := h.1 x hx; omega
theorem ins1_len (l : List Int) (v : Int) : (ins1 l v).length ≤ l.length + 1 := by
 induction l with
 | nil => simp [ins1]
 | cons y l ih =>
  unfold ins1
  split
  ·simp only [List.length_cons]; omega
  ·split
   ·simp
   ·simp
theorem ins_len (l : List Int) (v top : Int) : (ins l v top).length ≤ l.length + 1 := by
 unfold ins; split
 ·omega
 ·exact ins1_len l v
theorem ins1_at : ∀ (l : List Int) (v : Int) (k : Nat), k ≤ l.length → (∀ j, j < k → l.getD j 0 < v) → (k < l.length → ¬ l.getD k 0 < v) → ins1 l v = if k < l.length ∧ l.getD k 0 = v then l else l.take k ++ v :: l.drop k
 | [], v, k, hk, _, _ => by
  have : k = 0 := by simpa using hk
  subst this
  simp [ins1]
 | y :: l, v, 0, _, _, h2 => by
  have h := h2 (by simp)
  simp only [List.getD_cons_zero] at h
  unfold ins1
  rw [if_neg h]
  simp only [List.length_cons, Nat.zero_lt_succ, true_and, List.getD_cons_zero, List.take_zero, List.nil_append, List.drop_zero]
 | y :: l, v, k + 1, hk, h1, h2 => by
  have hy := h1 0 (by omega)
  simp only [List.getD_cons_zero] at hy
  have ih := ins1_at l v k (by simpa using hk) (fun j hj => by have := h1 (j + 1) (by omega); simpa using this) (fun h => by have := h2 (by simpa using h); simpa using this)
  unfold ins1
  rw [if_pos hy, ih]
  simp only [List.length_cons, Nat.add_lt_add_iff_right, List.getD_cons_succ, List.take_succ_cons, List.cons_append, List.drop_succ_cons]
  split <;> rfl
theorem ins_mem (l : List Int) (v top x : Int) (_h : ∀ y ∈ l, y ≤ top) : x ∈ ins l v top ↔ x ∈ l ∨ (x = v ∧ v ≤ top) := by
 unfold ins
 split
 ·rename_i h1
  constructor
  ·exact .inl
  ·rintro (h | ⟨rfl, h⟩)
   ·exact h
   ·omega
 ·rename_i h1
  rw [ins1_mem]
  constructor
  ·rintro (h | h)
   ·exact .inl h
   ·exact .inr ⟨h, by omega⟩
  ·rintro (h | h)
   ·exact .inl h
   ·exact .inr h.1
theorem ins_asc {l : List Int} {v top : Int} (h : Asc l) : Asc (ins l v top) := by
 unfold ins; split
 ·exact h
 ·exact ins1_asc h
def stepS (top : Int) (out : List Int) (r : TRng) : List Int := if r.lo ≤ r.hi then ins (ins out r.lo top) (r.hi + 1) top else out
def starts (l : List TRng) (top : Int) : List Int := l.foldl (stepS top) [0]
structure StOk (s : List Int) (top : Int) (l : List TRng) : Prop where
 asc : Asc s
 rng : ∀ x ∈ s, 0 ≤ x ∧ x ≤ top
 zero : (0 : Int) ∈ s
 lo : ∀ r ∈ l, r.lo ≤ r.hi → r.lo ≤ top → r.lo ∈ s
 hi : ∀ r ∈ l, r.lo ≤ r.hi → r.hi + 1 ≤ top → r.hi + 1 ∈ s
theorem StOk.step {s : List Int} {top : Int} {l : List TRng} (h : StOk s top l) {r : TRng} (hr : RIn r) : StOk (stepS top s r) top (l ++ [r]) := by
 unfold stepS
 unfold RIn at hr
 have h1 : ∀ y ∈ s, y ≤ top := fun y hy => (h.rng y hy).2
 split
 ·rename_i hle
  have m1 := fun x => ins_mem s r.lo top x h1
  have h2 : ∀ y ∈ ins s r.lo top, y ≤ top := fun y hy => by
   rcases (m1 y).1 hy with hy | hy
   ·exact h1 y hy
   ·omega
  have m2 := fun x => ins_mem (ins s r.lo top) (r.hi + 1) top x h2
  refine ⟨ins_asc (ins_asc h.asc), fun x hx => ?_, (m2 0).2 (.inl ((m1 0).2 (.inl h.zero))), fun q hq h3 h4 => ?_, fun q hq h3 h4 => ?_⟩
  ·rcases (m2 x).1 hx with hx | hx
   ·rcases (m1 x).1 hx with hx | hx
    ·exact h.rng x hx
    ·omega
   ·omega
  ·rcases List.mem_append.1 hq with hq | hq
   ·exact (m2 _).2 (.inl ((m1 _).2 (.inl (h.lo q hq h3 h4))))
   ·rw [List.mem_singleton] at hq; subst hq
    exact (m2 _).2 (.inl ((m1 _).2 (.inr ⟨rfl, h4⟩)))
  ·rcases List.mem_append.1 hq with hq | hq
   ·exact (m2 _).2 (.inl ((m1 _).2 (.inl (h.hi q hq h3 h4))))
   ·rw [List.mem_singleton] at hq; subst hq
    exact (m2 _).2 (.inr ⟨rfl, h4⟩)
 ·rename_i hle
  refine ⟨h.asc, h.rng, h.zero, fun q hq h3 h4 => ?_, fun q hq h3 h4 => ?_⟩
  ·rcases List.mem_append.1 hq with hq | hq
   ·exact h.lo q hq h3 h4
   ·rw [List.mem_singleton] at hq; subst hq; omega
  ·rcases List.mem_append.1 hq with hq | hq
   ·exact h.hi q hq h3 h4
   ·rw [List.mem_singleton] at hq; subst hq; omega
theorem starts_ok_go {top : Int} : ∀ (l pre : List TRng) (s : List Int), (∀ r ∈ l, RIn r) → StOk s top pre → StOk (l.foldl (stepS top) s) top (pre ++ l)
 | [], pre, s, _, h => by rw [List.append_nil]; exact h
 | r :: l, pre, s, hin, h => by
  have := starts_ok_go l (pre ++ [r]) (stepS top s r) (fun q hq => hin q (List.mem_cons_of_mem _ hq)) (h.step (hin r (List.mem_cons_self ..)))
  rw [List.append_assoc] at this
  exact this
theorem starts_ok {top : Int} (ht : 0 ≤ top) {l : List TRng} (h : ∀ r ∈ l, RIn r) : StOk (starts l top) top l := by
 have := starts_ok_go (top := top) l [] [0] h ⟨List.pairwise_singleton _ _, by simp; omega, by simp, by simp, by simp⟩
 rwa [List.nil_append] at this
theorem stepS_len (top : Int) (s : List Int) (r : TRng) : (stepS top s r).length ≤ s.length + 2 := by
 unfold stepS
 split
 ·have := ins_len (ins s r.lo top) (r.hi + 1) top
  have := ins_len s r.lo top
  omega
 ·omega
theorem starts_len_go (top : Int) : ∀ (l : List TRng) (s : List Int), (l.foldl (stepS top) s).length ≤ s.length + 2 * l.length
 | [], s => by simp
 | r :: l, s => by
  have := starts_len_go top l (stepS top s r)
  have := stepS_len top s r
  simp only [List.foldl_cons, List.length_cons]
  omega
theorem starts_len (l : List TRng) (top : Int) : (starts l top).length ≤ 1 + 2 * l.length := starts_len_go top l [0]
def memB (l : List TRng) (v : Int) : Bool := l.any fun r => decide (r.lo ≤ v) && decide (v ≤ r.hi)
theorem memB_iff (l : List TRng) (v : Int) : memB l v = true ↔ mem l v := by
 unfold memB mem
 rw [List.any_eq_true]
 constructor
 ·rintro ⟨r, hr, h⟩
  rw [Bool.and_eq_true, decide_eq_true_eq, decide_eq_true_eq] at h
  exact ⟨r, hr, h⟩
 ·rintro ⟨r, hr, h⟩
  exact ⟨r, hr, by rw [Bool.and_eq_true, decide_eq_true_eq, decide_eq_true_eq]; exact h⟩
def segEnd (s : List Int) (top : Int) (i : Nat) : Int := if i + 1 < s.length then s.getD (i + 1) 0 - 1 else top
def putSeg (out : List TRng) (x e : Int) : List TRng := if 0 < out.length ∧ (out.getD (out.length - 1) default).hi + 1 = x then out.take (out.length - 1) ++ [⟨(out.getD (out.length - 1) default).lo, e⟩] else out ++ [⟨x, e⟩]
def kst (φ : Int → Bool) (s : List Int) (top : Int) : Nat → List TRng
 | 0 => []
 | i + 1 => if φ (s.getD i 0) = true then putSeg (kst φ s top i) (s.getD i 0) (segEnd s top i) else kst φ s top i
theorem putSeg_ok {out : List TRng} {x e : Int} (hc : Can out) (hx : x ≤ e) (hl : ∀ r ∈ out, r.hi < x) : Can (putSeg out x e) ∧ (∀ v, mem (putSeg out x e) v ↔ mem out v ∨ (x ≤ v ∧ v ≤ e)) ∧ ∀ r ∈ putSeg out x e, r.hi ≤ e := by
 unfold putSeg
 rcases List.eq_nil_or_concat out with rfl | ⟨a, q, rfl⟩
 ·rw [if_neg (by simp)]
  refine ⟨.one hx, fun v => ?_, by simp⟩
  simp only [List.nil_append]
  rw [mem_cons]
  simp [mem_nil]
 ·simp only [List.concat_eq_append] at *
  obtain ⟨ca, hq, hs⟩ := hc.snoc_inv
  have hg : (a ++ [q]).getD ((a ++ [q]).length - 1) default = q := by simp [List.getD]
  rw [hg]
  have hqx := hl q (by simp)
  split
  ·rename_i h
   rw [show (a ++ [q]).take ((a ++ [q]).length - 1) = a by simp]
   refine ⟨ca.append (.one (by dsimp only; omega)) fun y hy z hz => by rw [List.mem_singleton] at hz; subst hz; exact hs y hy, fun v => ?_, fun r hr => ?_⟩
   ·rw [mem_snoc, mem_snoc]
    dsimp only
    constructor
    ·rintro (h1 | h1)
     ·exact .inl (.inl h1)
     ·by_cases h2 : v ≤ q.hi
      ·exact .inl (.inr ⟨h1.1, h2⟩)
      ·exact .inr ⟨by omega, h1.2⟩
    ·rintro ((h1 | h1) | h1)
     ·exact .inl h1
     ·exact .inr ⟨h1.1, by omega⟩
     ·exact .inr ⟨by omega, h1.2⟩
   ·rcases List.mem_append.1 hr with hr | hr
    ·have := hl r (by simp [hr]); omega
    ·rw [List.mem_singleton] at hr; subst hr; exact Int.le_refl _
  ·rename_i h
   refine ⟨hc.append (.one hx) fun y hy z hz => ?_, fun v => mem_snoc, fun r hr => ?_⟩
   ·rw [List.mem_singleton] at hz; subst hz
    dsimp only
    rcases List.mem_append.1 hy with hy | hy
    ·have := hs y hy
     omega
    ·rw [List.mem_singleton] at hy; subst hy
     have : ¬ y.hi + 1 = x := fun e => h ⟨by simp, e⟩
     omega
   ·rcases List.mem_append.1 hr with hr | hr
    ·have := hl r hr; omega
    ·rw [List.mem_singleton] at hr; subst hr; exact Int.le_refl _
theorem asc_getD {s : List Int} (h : Asc s) {i j : Nat} (hij : i < j) (hj : j < s.length) : s.getD i 0 < s.getD j 0 := by
 have := List.pairwise_iff_getElem.1 h i j (by omega) hj hij
 rw [List.getD, List.getD, List.getElem?_eq_getElem (by omega), List.getElem?_eq_getElem hj]
 exact this
theorem getD_mem' {s : List Int} {i : Nat} (h : i < s.length) : s.getD i 0 ∈ s := by
 rw [List.getD, List.getElem?_eq_getElem h]; exact List.getElem_mem h
theorem seg_free {s : List Int} {top : Int} (ha : Asc s) (_hr : ∀ x ∈ s, 0 ≤ x ∧ x ≤ top) {i : Nat} (hi : i < s.length) {v : Int} (h1 : s.getD i 0 < v) (h2 : v ≤ segEnd s top i) : v ∉ s := by
 intro hv
 obtain ⟨j, hj⟩ := List.mem_iff_getElem?.1 hv
 have hjl := (List.getElem?_eq_some_iff.1 hj).1
 have hjv : s.getD j 0 = v := by rw [List.getD, hj]; rfl
 unfold segEnd at h2
 by_cases hji : j ≤ i
 ·rcases Nat.lt_or_eq_of_le hji with h | h
  ·have := asc_getD ha h hi; omega
  ·subst h; omega
 ·rw [if_pos (by omega)] at h2
  by_cases hj1 : j = i + 1
  ·subst hj1; omega
  ·have := asc_getD ha (show i + 1 < j by omega) hjl
   omega
theorem seg_const {s : List Int} {top : Int} {l : List TRng} (h : StOk s top l) {a : List TRng} (hsub : ∀ r ∈ a, r ∈ l) {i : Nat} (hi : i < s.length) {v : Int} (h1 : s.getD i 0 ≤ v) (h2 : v ≤ segEnd s top i) : memB a v = memB a (s.getD i 0) := by
 have hx := h.rng _ (getD_mem' hi)
 have hvt : v ≤ top := by
  unfold segEnd at h2
  split at h2
  ·rename_i h3
   have := h.rng _ (getD_mem' h3)
   omega
  ·exact h2
 have hfree : ∀ u, s.getD i 0 < u → u ≤ v → u ∉ s := fun u g1 g2 => seg_free h.asc h.rng hi g1 (by omega)
 rw [Bool.eq_iff_iff, memB_iff, memB_iff]
 constructor
 ·rintro ⟨r, hr, g1, g2⟩
  refine ⟨r, hr, ?_, ?_⟩
  ·by_cases g3 : r.lo ≤ s.getD i 0
   ·exact g3
   ·exact (hfree r.lo (by omega) g1 (h.lo r (hsub r hr) (by omega) (by omega))).elim
  ·omega
 ·rintro ⟨r, hr, g1, g2⟩
  refine ⟨r, hr, by omega, ?_⟩
  by_cases g3 : v ≤ r.hi
  ·exact g3
  ·exact (hfree (r.hi + 1) (by omega) (by omega) (h.hi r (hsub r hr) (by omega) (by omega))).elim
theorem segEnd_ge {s : List Int} {top : Int} {l : List TRng} (h : StOk s top l) {i : Nat} (hi : i < s.length) : s.getD i 0 ≤ segEnd s top i ∧ segEnd s top i ≤ top := by
 unfold segEnd
 split
 ·rename_i h1
  have := asc_getD h.asc (show i < i + 1 by omega) h1
  have := (h.rng _ (getD_mem' h1)).2
  omega
 ·exact ⟨(h.rng _ (getD_mem' hi)).2, Int.le_refl _⟩
def segAt (s : List Int) (top : Int) (i : Nat) : Int := if i < s.length then s.getD i 0 else top + 1
theorem kst_ok {s : List Int} {top : Int} {l : List TRng} (h : StOk s top l) (φ : Int → Bool) (hφ : ∀ i, i < s.length → ∀ v, s.getD i 0 ≤ v → v ≤ segEnd s top i → φ v = φ (s.getD i 0)) :
  ∀ i, i ≤ s.length → Can (kst φ s top i) ∧ (∀ v, mem (kst φ s top i) v ↔ (0 ≤ v ∧ v < segAt s top i) ∧ φ v = true) ∧ ∀ r ∈ kst φ s top i, r.hi < segAt s top i
 | 0, _ => by
  have h0 : segAt s top 0 = 0 := by
   unfold segAt
   rw [if_pos (List.length_pos_of_mem h.zero)]
   obtain ⟨j, hj⟩ := List.mem_iff_getElem?.1 h.zero
   have hjl := (List.getElem?_eq_some_iff.1 hj).1
   have hjv : s.getD j 0 = 0 := by rw [List.getD, hj]; rfl
   rcases Nat.eq_zero_or_pos j with rfl | hp
   ·exact hjv
   ·have := asc_getD h.asc hp hjl
    have := (h.rng _ (getD_mem' (show 0 < s.length by omega))).1
    omega
  refine ⟨.nil, fun v => ?_, by simp [kst]⟩
  rw [h0]
  constructor
  ·intro hm; exact (mem_nil v hm).elim
  ·rintro ⟨⟨h1, h2⟩, _⟩; omega
 | i + 1, hi => by
  obtain ⟨h1, h2, h3⟩ := kst_ok h φ hφ i (by omega)
  have hil : i < s.length := by omega
  have hge := segEnd_ge h hil
  have hx0 := (h.rng _ (getD_mem' hil)).1
  have e0 : segAt s top i = s.getD i 0 := by unfold segAt; rw [if_pos hil]
  have e1 : segAt s top (i + 1) = segEnd s top i + 1 := by unfold segAt segEnd; split <;> omega
  rw [e0] at h2 h3
  rw [e1]
  unfold kst
  split
  ·rename_i hp
   obtain ⟨g1, g2, g3⟩ := putSeg_ok h1 hge.1 h3
   refine ⟨g1, fun v => ?_, fun r hr => by have := g3 r hr; omega⟩
   rw [g2, h2]
   constructor
   ·rintro (⟨q1, q2⟩ | q)
    ·exact ⟨⟨q1.1, by omega⟩, q2⟩
    ·exact ⟨⟨by omega, by omega⟩, by rw [hφ i hil v q.1 q.2]; exact hp⟩
   ·rintro ⟨q1, q2⟩
    by_cases hv : v < s.getD i 0
    ·exact .inl ⟨⟨q1.1, hv⟩, q2⟩
    ·exact .inr ⟨by omega, by omega⟩
  ·rename_i hp
   refine ⟨h1, fun v => ?_, fun r hr => by have := h3 r hr; omega⟩
   rw [h2]
   constructor
   ·rintro ⟨q1, q2⟩; exact ⟨⟨q1.1, by omega⟩, q2⟩
   ·rintro ⟨q1, q2⟩
    by_cases hv : v < s.getD i 0
    ·exact ⟨⟨q1.1, hv⟩, q2⟩
    ·rw [hφ i hil v (by omega) (by omega)] at q2
     exact absurd q2 hp
def phi (c : Int) (a b : List TRng) (v : Int) : Bool := if c = 1 then memB a v && memB b v else memB a v || memB b v
def keepL (c : Int) (a b : List TRng) (top : Int) : List TRng := kst (phi c a b) (starts (a ++ b) top) top (starts (a ++ b) top).length
theorem keepL_ok (c : Int) {a b : List TRng} {top : Int} (ht : 0 ≤ top) (ha : ∀ r ∈ a, RIn r) (hb : ∀ r ∈ b, RIn r) : Can (keepL c a b top) ∧ ∀ v, mem (keepL c a b top) v ↔ (0 ≤ v ∧ v ≤ top) ∧ phi c a b v = true := by
 have hs : StOk (starts (a ++ b) top) top (a ++ b) := starts_ok ht fun r hr => by
  rcases List.mem_append.1 hr with hr | hr
  ·exact ha r hr
  ·exact hb r hr
 obtain ⟨h1, h2, _⟩ := kst_ok hs (phi c a b) (fun i hi v g1 g2 => by
  unfold phi
  rw [seg_const hs (fun r hr => List.mem_append_left _ hr) hi g1 g2, seg_const hs (fun r hr => List.mem_append_right _ hr) hi g1 g2]) _ (Nat.le_refl _)
 refine ⟨h1, fun v => ?_⟩
 unfold keepL
 rw [h2]
 have : segAt (starts (a ++ b) top) top (starts (a ++ b) top).length = top + 1 := by unfold segAt; rw [if_neg (by omega)]
 rw [this]
 constructor
 ·rintro ⟨q1, q2⟩; exact ⟨by omega, q2⟩
 ·rintro ⟨q1, q2⟩; exact ⟨by omega, q2⟩
theorem keepL_isect {a b : List TRng} (ha : ∀ r ∈ a, RIn r) (hb : ∀ r ∈ b, RIn r) : keepL 1 a b 4294967295 = isect a b := by
 obtain ⟨h1, h2⟩ := keepL_ok 1 (top := 4294967295) (by omega) ha hb
 refine isect_uniq h1 fun v => ?_
 rw [h2]
 unfold phi
 rw [if_pos rfl, Bool.and_eq_true, memB_iff, memB_iff]
 constructor
 ·exact fun h => h.2
 ·intro h
  refine ⟨?_, h⟩
  obtain ⟨r, hr, g1, g2⟩ := h.1
  have := ha r hr
  unfold RIn at this
  omega
theorem keepL_canon {a : List TRng} (ha : ∀ r ∈ a, RIn r) : keepL 0 a [] 4294967295 = canon a := by
 obtain ⟨h1, h2⟩ := keepL_ok 0 (top := 4294967295) (b := []) (by omega) ha (by simp)
 refine canon_uniq h1 fun v => ?_
 rw [h2]
 unfold phi
 rw [if_neg (by decide), Bool.or_eq_true, memB_iff, memB_iff]
 constructor
 ·rintro ⟨_, h | h⟩
  ·exact h
  ·exact (mem_nil v h).elim
 ·intro h
  refine ⟨?_, .inl h⟩
  obtain ⟨r, hr, g1, g2⟩ := h
  have := ha r hr
  unfold RIn at this
  omega
variable {Gl : Glob}
attribute [local irreducible] PW PWL OpP PCalls PWO PWT bothT
theorem c_contains (l : List TRng) (v : Int) (hl : l.length < 4294967296) : PFun Tryz.prog Gl 158 [.sl (l.map eRng), .int .u32 v] fun r => r = .bool (memB l v) := by
 (refine PFun.of hT Tryz.func158 rfl fun B hD => ?_; refine pw_norm rfl ?_)
 (repeat' (first | refine zS ?_ | refine zq5 ?_ | refine zq6 ?_ | (refine zT ?_ ?_ <;> intro h <;> first | exact zX | refine zNq ?_)))
 refine pw_for hD (fun i : Nat => [(5, .int .i64 i)]) (fun _ => []) (fun i => i ≤ l.length ∧ memB l v = memB (l.drop i) v) (fun i => l.length - i) 0 ⟨Nat.zero_le _, rfl⟩ 0 rfl (fun _ => rfl) zLes (fun _ => rfl) (fun _ => rfl) zLe ?_
 rintro i ⟨hi, hm⟩
 have hst : i < l.length → memB (l.drop i) v = ((decide ((l.getD i default).lo ≤ v) && decide (v ≤ (l.getD i default).hi)) || memB (l.drop (i + 1)) v) := fun h => by
  rw [List.drop_eq_getElem_cons h, List.getD, List.getElem?_eq_getElem h]; rfl
 (repeat' (first | refine zS ?_ | refine zq5 ?_ | refine zq6 ?_ | (refine zT ?_ ?_ <;> intro h <;> first | exact zX | refine zNq ?_)))
 ·rw [hm, hst (by omega), decide_eq_true h.1, decide_eq_true h.2]
  exact ret2 _ rfl rfl rfl
 ·refine ⟨i + 1, ⟨by omega, ?_⟩, by omega, zLe, zLes⟩
  rw [hm, hst (by omega)]
  have : (decide ((l.getD i default).lo ≤ v) && decide (v ≤ (l.getD i default).hi)) = false := by
   rw [Bool.eq_false_iff, ne_eq, Bool.and_eq_true, decide_eq_true_eq, decide_eq_true_eq]; exact h
  rw [this, Bool.false_or]
 ·rw [hm, List.drop_eq_nil_of_le (by omega)]
  exact ret2 _ rfl rfl rfl
instance (l : List TRng) (v : Int) : ConF Tryz.prog Gl 158 [.sl (l.map eRng), .int .u32 v] (l.length < 4294967296) (.bool (memB l v)) := ⟨e158, fun h => c_contains l v h⟩
theorem c_rvalid (l : List TRng) (top : Int) (hl : l.length < 4294967296) (hin : ∀ r ∈ l, RIn r) : PFun Tryz.prog Gl 125 [.sl (l.map eRng), .int .u32 top] fun r => r = .bool (ivalid l top) := by
 (refine PFun.of hT Tryz.func125 rfl fun B hD => ?_; refine pw_norm rfl ?_)
 (repeat' (first | refine zS ?_ | refine zq5 ?_ | refine zq6 ?_ | (refine zT ?_ ?_ <;> intro h <;> first | exact zX | refine zNq ?_)))
 refine pw_for hD (fun i : Nat => [(5, .int .i64 i)]) (fun _ => []) (fun i => i ≤ l.length ∧ ∀ j, j < i → chk top l j) (fun i => l.length - i) 0 ⟨Nat.zero_le _, fun j h => by omega⟩ 0 rfl (fun _ => rfl) zLes (fun _ => rfl) (fun _ => rfl) zLe ?_
 rintro i ⟨hi, hc⟩
 have hx : ∀ k, RIn (l.getD k default) := fun k => by
  rw [List.getD]
  cases e : l[k]? with
  | none => exact ⟨by decide, by decide⟩
  | some x => exact hin x (List.mem_of_getElem? e)
 have hx0 := hx i
 have hx1 := hx (i - 1)
 unfold RIn at hx0 hx1
 (repeat' (first | (refine zDr [[0,1,2,3,4,5,6,7,8,9,10,11,12,13,14,15,16,17,18,19,20,21,22,23,24,25,26,27,28,29,30,31,32,33,34,35,36,37,38,39,40]] ?_; refine zDn ?_) | refine zS ?_ | refine zD ?_ | refine po_both ?_ ?_ | refine pwt_both ?_ ?_ | refine pwt_fork ?_ | refine pwt_lin ?_ | (refine po_test rfl rfl rfl rfl zB ?_ ?_ <;> intro hb <;> first | exact zX | refine zDn ?_) | refine zq5 ?_ | refine zq6 ?_ | (refine zT ?_ ?_ <;> intro h <;> first | exact zX | refine zNq ?_)))
 ·have : ivalid l top = false := by unfold ivalid; rw [decide_eq_false_iff_not]; intro hh; have := hh i (by omega); unfold chk at this; omega
  rw [this]; exact ret2 _ rfl rfl rfl
 ·have : ivalid l top = false := by unfold ivalid; rw [decide_eq_false_iff_not]; intro hh; have := hh i (by omega); unfold chk at this; omega
  rw [this]; exact ret2 _ rfl rfl rfl
 ·have : ivalid l top = false := by unfold ivalid; rw [decide_eq_false_iff_not]; intro hh; have := hh i (by omega); unfold chk at this; omega
  rw [this]; exact ret2 _ rfl rfl rfl
 ·refine ⟨i + 1, ⟨by omega, fun j hj => ?_⟩, by omega, zLe, zLes⟩
  rcases Nat.lt_succ_iff_lt_or_eq.1 hj with hj | rfl
  ·exact hc j hj
  ·unfold chk; omega
 ·refine ⟨i + 1, ⟨by omega, fun j hj => ?_⟩, by omega, zLe, zLes⟩
  rcases Nat.lt_succ_iff_lt_or_eq.1 hj with hj | rfl
  ·exact hc j hj
  ·unfold chk; omega
 ·have : ivalid l top = true := by unfold ivalid; rw [decide_eq_true_eq]; exact fun j hj => hc j (by omega)
  rw [this]; exact ret2 _ rfl rfl rfl
instance (l : List TRng) (top : Int) : ConF Tryz.prog Gl 125 [.sl (l.map eRng), .int .u32 top] (l.length < 4294967296 ∧ ∀ r ∈ l, RIn r) (.bool (ivalid l top)) := ⟨e125, fun h => c_rvalid l top h.1 h.2⟩
abbrev eU64 (v : Int) : PV := .int .u64 v
theorem c_insert (l : List Int) (v top : Int) (hl : l.length < 4294967296) (_hv : 0 ≤ v ∧ v < 4294967297) (ht : 0 ≤ top ∧ top < 4294967296) : PFun Tryz.prog Gl 192 [.sl (l.map eU64), .int .u64 v, .int .u32 top] fun r => r = .sl ((ins l v top).map eU64) := by
 (refine PFun.of hT Tryz.func192 rfl fun B hD => ?_; refine pw_norm rfl ?_)
 unfold ins
 (repeat' (first | refine zS ?_ | refine zq5 ?_ | refine zq6 ?_ | (refine zT ?_ ?_ <;> intro h <;> first | exact zX | refine zNq ?_)))
 ·rw [if_pos h]
  exact ret2 _ rfl rfl rfl
 rw [if_neg h]
 refine pw_for hD (fun i : Nat => [(7, .int .i64 i)]) (fun _ => []) (fun i => i ≤ l.length ∧ ∀ j, j < i → l.getD j 0 < v) (fun i => l.length - i) 0 ⟨Nat.zero_le _, fun j h => by omega⟩ 0 rfl (fun _ => rfl) zLes (fun _ => rfl) (fun _ => rfl) zLe ?_
 rintro i ⟨hi, hc⟩
 (repeat' (first | refine zS ?_ | refine zq5 ?_ | refine zq6 ?_ | (refine zT ?_ ?_ <;> intro h <;> first | exact zX | refine zNq ?_)))
 ·refine ⟨i + 1, ⟨by omega, fun j hj => ?_⟩, by omega, zLe, zLes⟩
  rcases Nat.lt_succ_iff_lt_or_eq.1 hj with hj | rfl
  ·exact hc j hj
  ·exact h.2
 ·rename_i h1
  rw [ins1_at l v i hi hc (fun hh q => h1 ⟨by omega, q⟩), if_pos ⟨by omega, h.2⟩]
  exact ret2 _ rfl rfl rfl
 ·rename_i h1
  rw [ins1_at l v i hi hc (fun hh q => h1 ⟨by omega, q⟩), if_neg (by rintro ⟨q1, q2⟩; exact h ⟨by omega, q2⟩)]
  have hl1 : (l.take i).length = i := by rw [List.length_take]; omega
  have hl2 : (l.drop i).length = l.length - i := List.length_drop ..
  refine zDr [[1,2,3,5,6,8,9,10],[0,4,7,11],[12]] ?_
  refine zDn ?_
  refine zD ?_
  (refine po_step rfl rfl (op_litm hT rfl rfl rfl rfl rfl (by decide) rfl rfl rfl rfl ⟨zLok, ?_⟩); refine zDn ?_)
  (refine po_step rfl rfl (op_appendX (b := 8) hT rfl rfl rfl rfl (by simp) rfl (by first | rfl | (simp only [List.all_map]; exact List.all_eq_true.2 fun _ _ => rfl)) (by first | rfl | (simp only [List.all_map]; exact List.all_eq_true.2 fun _ _ => rfl)) (by simp; omega) (fun cap1 hcap => ⟨(by (repeat (first | exact True.intro | refine ⟨.inr rfl, ?_⟩ | refine ⟨.inl (by decide +kernel), ?_⟩))), ?_⟩)); (first | refine po_norm rfl ?_ | refine po_normE rfl ?_))
  (refine po_step rfl rfl (op_appendX (b := 8) hT rfl rfl rfl rfl (by simp) rfl (by first | rfl | (simp only [List.all_map]; exact List.all_eq_true.2 fun _ _ => rfl)) (by first | rfl | (simp only [List.all_map]; exact List.all_eq_true.2 fun _ _ => rfl)) (by simp; omega) (fun cap2 hcap => ⟨(by (repeat (first | exact True.intro | refine ⟨.inr rfl, ?_⟩ | refine ⟨.inl (by decide +kernel), ?_⟩))), ?_⟩)); (first | refine po_norm rfl ?_ | refine po_normE rfl ?_))
  (refine po_step rfl rfl (op_appendX (b := 8) hT rfl rfl rfl rfl (by simp) rfl (by first | rfl | (simp only [List.all_map]; exact List.all_eq_true.2 fun _ _ => rfl)) (by first | rfl | (simp only [List.all_map]; exact List.all_eq_true.2 fun _ _ => rfl)) (by simp; omega) (fun cap3 hcap => ⟨(by (repeat (first | exact True.intro | refine ⟨.inr rfl, ?_⟩ | refine ⟨.inl (by decide +kernel), ?_⟩))), ?_⟩)); (first | refine po_norm rfl ?_ | refine po_normE rfl ?_))
  refine zD ?_
  (repeat' (first | refine zS ?_ | refine zq5 ?_ | refine zq6 ?_ | (refine zT ?_ ?_ <;> intro h <;> first | exact zX | refine zNq ?_)))
  refine ret0 _ (.sl ([] ++ (l.take i).map eU64 ++ [.int .u64 v] ++ (l.drop i).map eU64)) rfl ?_ (.inr (.inr (.inr (.inl ⟨_, _, _, _, _, _, rfl, rfl, rfl, by simp; omega, rfl⟩)))) rfl
  simp
instance (l : List Int) (v top : Int) : ConF Tryz.prog Gl 192 [.sl (l.map eU64), .int .u64 v, .int .u32 top] (l.length < 4294967296 ∧ (0 ≤ v ∧ v < 4294967297) ∧ 0 ≤ top ∧ top < 4294967296) (.sl ((ins l v top).map eU64)) := ⟨e192, fun h => c_insert l v top h.1 h.2.1 h.2.2⟩

end
end Go.Proofs.YtkaobkjcjodffaaGreatDoor