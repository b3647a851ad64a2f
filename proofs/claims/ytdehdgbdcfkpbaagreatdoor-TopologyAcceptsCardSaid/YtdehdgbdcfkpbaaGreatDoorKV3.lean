/-
  What the parser accepts is valid.
  The generators of lines and of changed texts.
  The law TopologyAccepts, walked.
-/
import Derived.Test.YtdehdgbdcfkpbaaGreatDoorKV1
import Derived.Test.YtdehdgbdcfkpbaaGreatDoorKP5
import Derived.Test.YtdehdgbdcfkpbaaGreatDoorKA5
import Derived.Test.YtdehdgbdcfkpbaaGreatDoorJPwFrz2
import Derived.Test.YtdehdgbdcfkpbaaGreatDoorKX5
namespace Go.Proofs.YtdehdgbdcfkpbaaGreatDoor
open Go Go.Pw
set_option maxHeartbeats 20000000
set_option maxRecDepth 100000

theorem number_range {s : Str} {a b : Int} (h : (number s a b).2 = true) : a ≤ (number s a b).1 ∧ (number s a b).1 ≤ b := by
  revert h
  unfold number
  split
  · intro h; cases h
  · split
    · intro h; cases h
    · split
      · intro h; cases h
      · rename_i h3
        intro _
        simp only [Bool.or_eq_true, decide_eq_true_eq, not_or] at h3
        exact ⟨by show a ≤ (dval s : Int); omega, by show (dval s : Int) ≤ b; omega⟩
theorem firstAt_old {α : Type} {p : α → Bool} {l r : List α} {i : Nat} (h : firstAt p l = (i : Int)) : firstAt p (l ++ r) = (i : Int) := by
  unfold firstAt at h ⊢
  rw [List.findIdx?_append]
  cases hf : l.findIdx? p with
  | none => rw [hf] at h; have : (-1 : Int) = (i : Int) := h; omega
  | some k => rw [hf] at h; exact h
theorem firstAt_new {α : Type} {p : α → Bool} {l : List α} {x : α} (h : firstAt p l < 0) (hx : p x = true) : firstAt p (l ++ [x]) = (l.length : Int) := by
  unfold firstAt at h ⊢
  rw [List.findIdx?_append]
  cases hf : l.findIdx? p with
  | none => simp [hx]
  | some k => rw [hf] at h; have : (k : Int) < 0 := h; omega
theorem firstAt_lt {α : Type} {p : α → Bool} {l : List α} : firstAt p l < (l.length : Int) := by
  unfold firstAt
  cases hf : l.findIdx? p with
  | none => show (-1 : Int) < _; omega
  | some k =>
    rw [List.findIdx?_eq_some_iff_getElem] at hf
    obtain ⟨hk, _⟩ := hf
    show (k : Int) < _; omega
/-- What the parser keeps. -/
structure VI (t : Topo) : Prop where
  lim : TLim t
  tol : 0 ≤ t.tol ∧ t.tol ≤ 2
  devs : ∀ (i : Nat) d, t.devs[i]? = some d → vDevice d = true ∧ tDevice t d.name = (i : Int)
  links : ∀ l ∈ t.links, gLink t l = true
  edges : ∀ (i : Nat) e, t.edges[i]? = some e → (vEdge t e = true ∧ tEdge t e.name = (i : Int)) ∧ (t.edges.take i).all (gMeet e) = true
  pools : ∀ (i : Nat) p, t.pools[i]? = some p → pvalid p = true ∧ (t.pools.take i).any (pover p) = false
theorem VI.valid {t : Topo} (h : VI t) (hd : ¬ t.devs.length = 0) : tValid t = true := by
  have h1 := h.lim.devs
  have h2 := h.lim.links
  have h3 := h.lim.edges
  have h4 := h.lim.pools
  have h5 := h.tol
  have hh : vHead t = false := by
    simp only [vHead, Bool.or_eq_false_iff, decide_eq_false_iff_not, beq_eq_false_iff_ne]
    omega
  have a1 : allI (gDev t) t.devs = true := allI_true fun i d hx => by
    obtain ⟨x1, x2⟩ := h.devs i d hx
    simp [gDev, x1, x2]
  have a2 : t.links.all (gLink t) = true := List.all_eq_true.2 h.links
  have a3 : allI (gEdge t) t.edges = true := allI_true fun i e hx => by
    obtain ⟨⟨x1, x2⟩, x3⟩ := h.edges i e hx
    simp only [gEdge, x1, x2, x3]; simp
  have a4 : allI (gPool t) t.pools = true := allI_true fun i p hx => by
    obtain ⟨x1, x2⟩ := h.pools i p hx
    simp [gPool, x1, x2]
  unfold tValid
  rw [hh, a1, a2, a3, a4]; rfl
theorem vi0 : VI topo0 := ⟨⟨by decide, by decide, by decide, by decide⟩, by decide, fun i d h => (by simp [topo0] at h), fun l h => (by simp [topo0] at h), fun i e h => (by simp [topo0] at h), fun i p h => (by simp [topo0] at h)⟩
theorem pfxParse_valid {s : Str} (h : (pfxParse s).2 = true) : pvalid (pfxParse s).1 = true := by
  revert h
  unfold pfxParse pfxP2
  split
  · intro h; cases h
  split
  · intro h; cases h
  split
  · intro h; cases h
  rename_i h3
  intro _
  simpa using h3
theorem snoc_at {α : Type} {l : List α} {y x : α} {i : Nat} (h : (l ++ [y])[i]? = some x) : (i < l.length ∧ l[i]? = some x) ∨ (i = l.length ∧ x = y) := by
  rcases Nat.lt_trichotomy i l.length with h1 | h1 | h1
  · rw [List.getElem?_append_left h1] at h; exact .inl ⟨h1, h⟩
  · subst h1
    rw [List.getElem?_append_right (Nat.le_refl _), Nat.sub_self] at h
    cases h; exact .inr ⟨rfl, rfl⟩
  · rw [List.getElem?_eq_none (by simp; omega)] at h; cases h
theorem take_snoc {α : Type} {l : List α} {y : α} {i : Nat} (h : i ≤ l.length) : (l ++ [y]).take i = l.take i := List.take_append_of_le_length h
theorem pTol_vi {t : Topo} (h : VI t) {told : Bool} {w : List Str} : (pTol t told w).1 = 0 → VI (pTol t told w).2.1 := by
  unfold pTol
  split
  · intro e; simp at e
  split
  · intro e; simp at e
  rename_i hn
  split
  · intro e; simp at e
  intro _
  have := number_range (s := w.getD 1 []) (a := 0) (b := 2) (by simpa using hn)
  exact ⟨⟨h.lim.devs, h.lim.links, h.lim.edges, h.lim.pools⟩, this, h.devs, h.links, h.edges, h.pools⟩
theorem pPool_vi {t : Topo} (h : VI t) {told : Bool} {w : List Str} : (pPool t told w).1 = 0 → VI (pPool t told w).2.1 := by
  unfold pPool
  split
  · intro e; simp at e
  split
  · intro e; simp at e
  rename_i hp
  split
  · intro e; simp at e
  rename_i ho
  split
  · intro e; simp at e
  rename_i hl
  intro _
  have hpv : pvalid (pfxParse (w.getD 1 [])).1 = true := pfxParse_valid (by simpa using hp)
  simp only [decide_eq_true_eq] at hl
  refine ⟨⟨h.lim.devs, h.lim.links, h.lim.edges, by simp; omega⟩, h.tol, h.devs, h.links, h.edges, fun i p hx => ?_⟩
  rcases snoc_at hx with ⟨h1, h2⟩ | ⟨rfl, rfl⟩
  · obtain ⟨x1, x2⟩ := h.pools i p h2
    exact ⟨x1, by show ((t.pools ++ _).take i).any _ = false; rw [take_snoc (by omega)]; exact x2⟩
  · refine ⟨hpv, ?_⟩
    show ((t.pools ++ _).take _).any _ = false
    rw [take_snoc (Nat.le_refl _), List.take_length]
    rw [any_congr' (q := fun q => pover q (pfxParse (w.getD 1 [])).1) fun x _ => pover_comm _ _]
    simpa using ho
theorem pLink_vi {t : Topo} (h : VI t) {told : Bool} {w : List Str} : (pLink t told w).1 = 0 → VI (pLink t told w).2.1 := by
  unfold pLink
  split
  · intro e; simp at e
  split
  · intro e; simp at e
  rename_i hn
  split
  · intro e; simp at e
  rename_i hd
  split
  · intro e; simp at e
  rename_i hne
  split
  · intro e; simp at e
  rename_i hl
  intro _
  have hr := number_range (s := w.getD 4 []) (a := 1) (b := 1000) (by simpa using hn)
  simp only [decide_eq_true_eq] at hl
  simp only [Bool.or_eq_true, decide_eq_true_eq, not_or] at hd
  have l1 : tDevice t (w.getD 1 []) < (t.devs.length : Int) := firstAt_lt
  have l2 : tDevice t (w.getD 2 []) < (t.devs.length : Int) := firstAt_lt
  have hne' : tDevice t (w.getD 1 []) ≠ tDevice t (w.getD 2 []) := by simpa using hne
  refine ⟨⟨h.lim.devs, by simp; omega, h.lim.edges, h.lim.pools⟩, h.tol, h.devs, fun l hx => ?_, h.edges, h.pools⟩
  rcases List.mem_append.1 hx with hx | hx
  · exact h.links l hx
  · rw [List.mem_singleton] at hx
    subst hx
    unfold gLink
    simp only [Bool.not_eq_true', Bool.or_eq_false_iff, decide_eq_false_iff_not]
    generalize tDevice t (w.getD 1 []) = a at *
    generalize tDevice t (w.getD 2 []) = b at *
    generalize (number (w.getD 4 []) 1 1000).1 = c at *
    refine ⟨⟨⟨⟨?_, ?_⟩, ?_⟩, ?_⟩, ?_⟩
    · omega
    · omega
    · show ¬ (max a b ≥ (t.devs.length : Int)); omega
    · omega
    · omega
theorem pDev_vi {t : Topo} (h : VI t) {told : Bool} {w : List Str} : (pDev t told w).1 = 0 → VI (pDev t told w).2.1 := by
  unfold pDev
  split
  · intro e; simp at e
  rename_i hf
  split
  · intro e; simp at e
  rename_i hc
  split
  · intro e; simp at e
  split
  · intro e; simp at e
  rename_i hn
  split
  · intro e; simp at e
  rename_i hd
  split
  · intro e; simp at e
  rename_i hl
  intro _
  have hr := number_range (s := w.getD 3 []) (a := 0) (b := 4096) (by simpa using hn)
  simp only [decide_eq_true_eq] at hl hd
  have hnm : vname (w.getD 1 []) = true := by
    simp only [Bool.or_eq_true, not_or, Bool.not_eq_true', Bool.not_eq_false] at hf
    exact hf.1.2
  have hvd : vDevice (dNew w) = true := by
    unfold vDevice dNew
    simp only [Bool.and_eq_true, decide_eq_true_eq, Bool.or_eq_true]
    refine ⟨⟨⟨hnm, hr.1⟩, hr.2⟩, ?_⟩
    by_cases ho : opt w (n2 w) sClass = true
    · right
      rw [ho] at hc
      simpa using hc
    · left
      simp only [dCls, if_neg ho]; rfl
  refine ⟨⟨by simp; omega, h.lim.links, h.lim.edges, h.lim.pools⟩, h.tol, fun i d hx => ?_, fun l hx => ?_, fun i e hx => ?_, h.pools⟩
  · rcases snoc_at hx with ⟨h1, h2⟩ | ⟨rfl, rfl⟩
    · obtain ⟨x1, x2⟩ := h.devs i d h2
      exact ⟨x1, firstAt_old x2⟩
    · exact ⟨hvd, firstAt_new (p := fun d : TDev => d.name == (dNew w).name) (by show tDevice t (w.getD 1 []) < 0; omega) (by simp)⟩
  · have := h.links l hx
    unfold gLink at this ⊢
    simp only [Bool.not_eq_true', Bool.or_eq_false_iff, decide_eq_false_iff_not] at this ⊢
    have e : ((t.devs ++ [dNew w]).length : Int) = t.devs.length + 1 := by simp
    rw [e]
    omega
  · obtain ⟨⟨x1, x2⟩, x3⟩ := h.edges i e hx
    refine ⟨⟨?_, x2⟩, x3⟩
    unfold vEdge at x1 ⊢
    simp only [Bool.and_eq_true, decide_eq_true_eq] at x1 ⊢
    have e : ((t.devs ++ [dNew w]).length : Int) = t.devs.length + 1 := by simp
    rw [e]
    refine ⟨⟨⟨⟨⟨x1.1.1.1.1.1, ?_⟩, x1.1.1.1.2⟩, x1.1.1.2⟩, x1.1.2⟩, x1.2⟩
    have := x1.1.1.1.1.2
    omega
theorem sub_size {w : List Str} (h : formB w fSize = true) : formB w fSub = false := by
  rw [form_size] at h
  rw [form_sub]
  simp only [Bool.and_eq_true, beq_iff_eq] at h
  have h6 := h.2.2.2.2
  rw [h6]
  simp [show (kSize == kSub) = false by decide]
theorem pvalid_zero {n : Int} (h0 : 1 ≤ n) (h1 : n ≤ 32) : pvalid ⟨0, n⟩ = true := by
  rw [valid_eq _ ⟨Int.le_refl _, by show (0 : Int) < 4294967296; decide⟩]
  unfold rvalid
  rw [decide_eq_true (show 0 ≤ n by omega), decide_eq_true h1]
  show ((IntKind.u64.wrap 0).tmod (rsize n) == 0) = true
  rw [show IntKind.u64.wrap 0 = 0 from rfl, Int.zero_tmod]; rfl
theorem pEdge_vi {t : Topo} (h : VI t) {told : Bool} {w : List Str} : (pEdge t told w).1 = 0 → VI (pEdge t told w).2.1 := by
  unfold pEdge
  split
  · intro e; simp at e
  rename_i hf
  split
  · intro e; simp at e
  rename_i hb
  split
  · intro e; simp at e
  rename_i hi
  split
  · intro e; simp at e
  rename_i hd
  split
  · intro e; simp at e
  rename_i hn
  split
  · intro e; simp at e
  rename_i hm
  split
  · intro e; simp at e
  rename_i hl
  intro _
  simp only [decide_eq_true_eq] at hl hd hn
  simp only [Bool.or_eq_true, not_or, Bool.not_eq_true', Bool.not_eq_false] at hf
  obtain ⟨⟨hff, hn1⟩, hn5⟩ := hf
  have l1 : tDevice t (w.getD 3 []) < (t.devs.length : Int) := firstAt_lt
  have hpf : (pvalid (ePf w) = true ∧ (ePf w).bits > 0) ∧ (formB w fSize = true → (ePf w).addr = 0) := by
    by_cases hs : formB w fSub = true
    · have hz : ¬ formB w fSize = true := fun hz => by rw [sub_size hz] at hs; cases hs
      unfold eBad at hb
      unfold eIn at hi
      unfold ePf
      rw [if_pos hs] at hb hi ⊢
      exact ⟨⟨pfxParse_valid (by simpa using hb), by simpa using hi⟩, fun hz' => absurd hz' hz⟩
    · unfold eIn at hi
      unfold ePf
      rw [if_neg hs] at hi ⊢
      have hr := number_range (s := w.getD 7 []) (a := 1) (b := 32) (by simpa using hi)
      exact ⟨⟨pvalid_zero hr.1 hr.2, by show (number (w.getD 7 []) 1 32).1 > 0; omega⟩, fun _ => rfl⟩
  have hve : vEdge t (eNew t w) = true := by
    unfold vEdge eNew
    simp only [Bool.and_eq_true, decide_eq_true_eq, Bool.or_eq_true, Bool.not_eq_true', beq_iff_eq]
    refine ⟨⟨⟨⟨⟨by omega, l1⟩, hn1, hn5⟩, hpf.1.1⟩, hpf.1.2⟩, ?_⟩
    by_cases hz : formB w fSize = true
    · exact .inr (hpf.2 hz)
    · exact .inl (by simpa using hz)
  have ht : ∀ e, vEdge { t with edges := t.edges ++ [eNew t w] } e = vEdge t e := fun _ => rfl
  refine ⟨⟨h.lim.devs, h.lim.links, by simp; omega, h.lim.pools⟩, h.tol, h.devs, h.links, fun i e hx => ?_, h.pools⟩
  rcases snoc_at hx with ⟨h1, h2⟩ | ⟨rfl, rfl⟩
  · obtain ⟨⟨x1, x2⟩, x3⟩ := h.edges i e h2
    refine ⟨⟨by rw [ht]; exact x1, firstAt_old x2⟩, ?_⟩
    show ((t.edges ++ _).take i).all _ = true
    rw [take_snoc (by omega)]; exact x3
  · refine ⟨⟨by rw [ht]; exact hve, firstAt_new (p := fun d : TEdge => d.name == (eNew t w).name) (by show tEdge t (w.getD 1 []) < 0; omega) (by simp)⟩, ?_⟩
    show ((t.edges ++ _).take _).all _ = true
    rw [take_snoc (Nat.le_refl _), List.take_length]
    refine List.all_eq_true.2 fun o ho => ?_
    unfold gMeet eNew
    show (!(!formB w fSize && !o.planned && pover (ePf w) o.pfx)) = true
    by_cases hz : formB w fSize = true
    · rw [hz]; rfl
    · have hs : formB w fSub = true := by
        simp only [Bool.and_eq_true, Bool.not_eq_true', not_and, Bool.not_eq_false] at hff
        cases hss : formB w fSub with
        | true => rfl
        | false => exact absurd (hff hss) hz
      rw [hs] at hm
      have hm' : (t.edges.any fun o => !o.planned && pover o.pfx (ePf w)) = false := by simpa using hm
      rw [List.any_eq_false] at hm'
      have := hm' o ho
      rw [pover_comm]
      cases hop : o.planned with
      | true => simp
      | false => rw [hop] at this; simp at this; simp [this]
theorem pLine_vi {t : Topo} (h : VI t) {told : Bool} {w : List Str} : (pLine t told w).1 = 0 → VI (pLine t told w).2.1 := by
  unfold pLine
  split
  · exact pDev_vi h
  split
  · exact pLink_vi h
  split
  · exact pEdge_vi h
  split
  · exact pPool_vi h
  split
  · exact pTol_vi h
  · intro e; simp at e
theorem pRun_vi : ∀ (ls : List TLine) {t : Topo} (told : Bool), VI t → (pRun ls t told).1 = 0 → VI (pRun ls t told).2.2
  | [], _, _, h, _ => h
  | l :: ls, t, told, h, e => by
    rw [pRun] at e ⊢
    split at e
    · rename_i hq
      have e' : (pLine t told l.words).1 = 0 := e
      rw [e'] at hq
      simp at hq
    · rename_i hq
      have hq' : (pLine t told l.words).1 = 0 := by simpa using hq
      exact pRun_vi ls _ (pLine_vi h hq') e
/-- What the parser accepts is valid; its line is 0. -/
theorem tParse_valid {s : Str} (h : (tParse s).2.2 = 0) : tValid (tParse s).1 = true ∧ (tParse s).2.1 = 0 := by
  revert h
  unfold tParse
  split
  · rename_i h1
    intro e
    have e' : (lines s).2.2 = 0 := e
    rw [e'] at h1; simp at h1
  · unfold pEnd
    split
    · rename_i h1
      intro e
      have e' : (pRun (lines s).1 topo0 false).1 = 0 := e
      rw [e'] at h1; simp at h1
    · rename_i h1
      split
      · intro e; simp at e
      · rename_i h2
        intro _
        exact ⟨(pRun_vi _ _ vi0 (by simpa using h1)).valid h2, rfl⟩
theorem tParse_fault {s : Str} (h : (tParse s).2.2 ≠ 0) : (tParse s).1 = topo0 := by
  revert h
  unfold tParse
  split
  · intro _; rfl
  · unfold pEnd
    split
    · intro _; rfl
    · split
      · intro _; rfl
      · intro e; exact absurd rfl e
end Go.Proofs.YtdehdgbdcfkpbaaGreatDoor
namespace Go.Proofs.YtdehdgbdcfkpbaaGreatDoor
open Go Go.Pw
variable {Gl : Glob}
attribute [local irreducible] PW PWL OpP PCalls PWO
set_option maxHeartbeats 20000000
set_option maxRecDepth 100000

def lines21 : List Str := [[100, 101, 118, 105, 99, 101, 32, 114, 49, 32, 99, 97, 112, 97, 99, 105, 116, 121, 32, 53], [100, 101, 118, 105, 99, 101, 32, 114, 57, 32, 99, 97, 112, 97, 99, 105, 116, 121, 32, 52, 48, 57, 55], [100, 101, 118, 105, 99, 101, 32, 114, 57, 32, 99, 97, 112, 97, 99, 105, 116, 121, 32, 55, 32, 118, 111, 108, 97, 116, 105, 108, 101, 32, 114, 97, 110, 103, 101, 115], [100, 101, 118, 105, 99, 101, 32, 114, 57, 32, 99, 97, 112, 97, 99, 105, 116, 121, 32, 55, 32, 99, 108, 97, 115, 115, 32, 97, 110, 121], [100, 101, 118, 105, 99, 101, 32, 114, 57, 32, 99, 97, 112, 97, 99, 105, 116, 121, 32, 48, 55], [108, 105, 110, 107, 32, 114, 49, 32, 114, 50, 32, 99, 111, 115, 116, 32, 48], [108, 105, 110, 107, 32, 114, 49, 32, 114, 57, 32, 99, 111, 115, 116, 32, 53], [108, 105, 110, 107, 32, 114, 49, 32, 114, 49, 32, 99, 111, 115, 116, 32, 53], [108, 105, 110, 107, 32, 114, 50, 32, 114, 49, 32, 99, 111, 115, 116, 32, 55], [101, 100, 103, 101, 32, 101, 57, 32, 97, 116, 32, 114, 49, 32, 122, 111, 110, 101, 32, 108, 97, 110, 32, 115, 117, 98, 110, 101, 116, 32, 49, 48, 46, 48, 46, 48, 46, 48, 47, 56], [101, 100, 103, 101, 32, 101, 57, 32, 97, 116, 32, 114, 49, 32, 122, 111, 110, 101, 32, 108, 97, 110, 32, 115, 105, 122, 101, 32, 51, 51], [101, 100, 103, 101, 32, 101, 49, 32, 97, 116, 32, 114, 49, 32, 122, 111, 110, 101, 32, 108, 97, 110, 32, 115, 105, 122, 101, 32, 50, 52], [101, 100, 103, 101, 32, 101, 57, 32, 97, 116, 32, 110, 111, 119, 104, 101, 114, 101, 32, 122, 111, 110, 101, 32, 108, 97, 110, 32, 115, 105, 122, 101, 32, 50, 52], [101, 100, 103, 101, 32, 101, 57, 32, 97, 116, 32, 114, 49, 32, 122, 111, 110, 101, 32, 108, 97, 110, 32, 115, 117, 98, 110, 101, 116, 32, 49, 46, 50, 46, 51, 46, 52, 47, 48], [101, 100, 103, 101, 32, 101, 57, 32, 97, 116, 32, 114, 49, 32, 122, 111, 110, 101, 32, 108, 97, 110, 32, 115, 117, 98, 110, 101, 116, 32, 48, 46, 48, 46, 48, 46, 48, 47, 48], [112, 111, 111, 108, 32, 49, 48, 46, 56, 46, 48, 46, 48, 47, 49, 54], [112, 111, 111, 108, 32, 49, 48, 46, 56, 46, 48, 46, 49, 47, 49, 54], [116, 111, 108, 101, 114, 97, 116, 101, 32, 49], [116, 111, 108, 101, 114, 97, 116, 101, 32, 57], [122, 111, 110, 101, 32, 108, 97, 110], [112, 111, 111, 108]]
theorem lines21_len : ∀ s ∈ lines21, s.length ≤ 60 := by decide
theorem c17 (l : List Int) (hl : Tp l) (i : Nat) (hi : i ≤ l.length) : Gen Gl 17 [] l i fun r => ∃ s : Str, s.length ≤ 61 ∧ r = .str s := by
  refine PCalls.of hT Tryz.func17 rfl 1 (Nat.le_refl _) fun B hD => ?_
  refine pw_norm rfl ?_
  (refine zGo ?_)
  (refine pl_op rfl (op_call [0] rfl rfl e13 (by decide) rfl rfl rfl zLe zLes (c13n l hl i hi 21 (by decide) (by decide)) (fun r s hq => ?_)); obtain ⟨i1, ⟨m, hm, rfl⟩, hi1, rfl⟩ := hq; refine ⟨rfl, rfl, ?_⟩; (refine zNp ?_))
  have hs : (lines21.getD m []).length ≤ 60 := lines21_len _ (getD_mem hm)
  (refine pl_op rfl (op_of (v_index (p := .str (lines21.getD m [])) hT rfl rfl rfl rfl (by omega) (lit_at .str lines21 m [] hm) rfl) ?_); (refine zNp ?_))
  generalize lines21.getD m [] = s at hs
  (refine zGo ?_)
  (refine pl_op rfl (op_of (v_concat rfl rfl rfl (by show _ + 1 ≤ _; omega)) ?_); (refine zNp ?_))
  (refine zGo ?_)
  exact ⟨_, _, _, rfl, ⟨i1, ⟨s ++ [10], by simp; omega, rfl⟩, hi1, rfl⟩, .inr (.inl rfl), ⟨.inr (.inl rfl), trivial⟩, rfl, rfl⟩
def bytes15 : List UInt8 := [32, 44, 61, 45, 48, 57, 97, 35, 10, 47, 46, 0, 128, 58, 62]
theorem c16 (l : List Int) (hl : Tp l) (i : Nat) (hi : i ≤ l.length) (s : Str) (hs : Small s) : Gen Gl 16 [.str s] l i fun r => ∃ u : Str, u.length ≤ s.length + 1 ∧ r = .str u := by
  refine PCalls.of hT Tryz.func16 rfl 1 (Nat.le_refl _) fun B hD => ?_
  refine pw_norm rfl ?_
  unfold Small at hs
  (refine zGo ?_)
  (refine pl_op rfl (op_tobytes hT rfl rfl rfl rfl rfl (by unfold maxLen; omega) (fun cap hcap => ?_)); (refine zNp ?_))
  (refine zGo ?_)
  (refine pl_op rfl (op_call [0] rfl rfl e13 (by decide) rfl rfl rfl zLe zLes (c13 l hl i hi (s.length : Int) (by omega)) (fun r s hq => ?_)); obtain ⟨m, i1, rfl, hm0, hm1, hi1, rfl⟩ := hq; refine ⟨rfl, rfl, ?_⟩; (refine zNp ?_))
  obtain ⟨m, rfl⟩ : ∃ n : Nat, m = (n : Int) := ⟨m.toNat, by omega⟩
  have hml : m ≤ s.length := by omega
  (refine zGo ?_)
  (refine pl_op rfl (op_call [0] rfl rfl e13 (by decide) rfl rfl rfl zLe zLes (c13n l hl i1 hi1 15 (by decide) (by decide)) (fun r s hq => ?_)); obtain ⟨i2, ⟨m2, hm2, rfl⟩, hi2, rfl⟩ := hq; refine ⟨rfl, rfl, ?_⟩; (refine zNp ?_))
  (refine pl_op rfl (op_of (v_index (p := eByte (bytes15.getD m2 0)) hT rfl rfl rfl rfl (by omega) (lit_at eByte bytes15 m2 0 hm2) rfl) ?_); (refine zNp ?_))
  generalize bytes15.getD m2 0 = cb
  (refine zGo ?_)
  (refine pl_op rfl (op_call [0] rfl rfl e13 (by decide) rfl rfl rfl zLe zLes (c13n l hl i2 hi2 5 (by decide) (by decide)) (fun r s hq => ?_)); obtain ⟨i3, ⟨k, hk, rfl⟩, hi3, rfl⟩ := hq; refine ⟨rfl, rfl, ?_⟩; (refine zNp ?_))
  (refine zGo ?_)
  refine pw_cond rfl (fun h1 => ?_) (fun h1 => ?_)
  · (refine zGo ?_)
    refine pw_cond rfl (fun h2 => ?_) (fun h2 => ?_)
    · have hpos : 0 < s.length := by simpa using h2
      have hlt : m < s.length := by omega
      (refine zGo ?_)
      (refine pl_op rfl (op_of (v_indexm hT rfl rfl rfl rfl rfl (by omega) (by omega) (by omega)) ?_); (refine zNp ?_))
      (refine zGo ?_)
      (refine pl_op rfl (op_storeE' (x0 := eByte s[m]) (x1 := eByte cb) (xs' := (s.set m cb).map eByte) hT rfl rfl rfl rfl rfl (by omega) (by simp [hlt]) rfl rfl rfl rfl (Nat.le_of_ble_eq_true rfl) rfl (show (s.map eByte).set (0 + m) (eByte cb) = (s.set m cb).map eByte by rw [Nat.zero_add, List.map_set]) ?_); (refine zNp ?_))
      (refine zGo ?_)
      (refine pl_op rfl (v_bstrM (bs := s.set m cb) hT rfl rfl rfl rfl rfl rfl (by simp) ?_); (refine zNp ?_))
      (refine zGo ?_)
      exact ⟨_, _, _, rfl, ⟨i3, ⟨s.set m cb, by simp, rfl⟩, hi3, rfl⟩, .inr (.inl rfl), ⟨.inr (.inl rfl), trivial⟩, rfl, rfl⟩
    · (refine zGo ?_)
      (refine pl_op rfl (v_bstrM (bs := s) hT rfl rfl rfl rfl rfl rfl rfl ?_); (refine zNp ?_))
      (refine zGo ?_)
      exact ⟨_, _, _, rfl, ⟨i3, ⟨s, by omega, rfl⟩, hi3, rfl⟩, .inr (.inl rfl), ⟨.inr (.inl rfl), trivial⟩, rfl, rfl⟩
  (refine zGo ?_)
  refine pw_cond rfl (fun h1 => ?_) (fun h1 => ?_)
  · (refine zGo ?_)
    refine pw_cond rfl (fun h2 => ?_) (fun h2 => ?_)
    · have hpos : 0 < s.length := by simpa using h2
      have hlt : m < s.length := by omega
      (refine zGo ?_)
      refine pw_draw [(0, true), (1, true), (2, true), (3, true), (4, true), (5, true), (6, true), (7, false), (8, true)] hmix (by decide +kernel) ?_
      (refine zDgo ?_)
      (refine po_val rfl rfl (v_sliceHi (m := m) hT rfl rfl rfl rfl (by omega)) ?_; refine zDn ?_)
      (refine zDgo ?_)
      (refine po_val rfl rfl (v_sliceLo (m := m + 1) hT rfl rfl rfl rfl (by omega) hcap) ?_; refine zDn ?_)
      (refine zDgo ?_)
      (refine po_step rfl rfl (op_appendB (b := 1) hT rfl rfl rfl rfl hml rfl rfl (by omega) (.inr (by omega)) (by omega) (fun cap' _ _ => ⟨(by (exact zLok)), ?_⟩)); refine po_norm rfl ?_)
      (refine zDgo ?_)
      (refine zGo ?_)
      (refine pl_op rfl (v_bstrM (bs := s.take m ++ (s.drop (0 + (m + 1))).take (s.length - (m + 1))) hT rfl rfl rfl rfl rfl rfl (by simp; omega) ?_); (refine zNp ?_))
      (refine zGo ?_)
      exact ⟨_, _, _, rfl, ⟨i3, ⟨s.take m ++ (s.drop (0 + (m + 1))).take (s.length - (m + 1)), by simp; omega, rfl⟩, hi3, rfl⟩, .inr (.inl rfl), ⟨.inr (.inl rfl), trivial⟩, rfl, rfl⟩
    · (refine zGo ?_)
      (refine pl_op rfl (v_bstrM (bs := s) hT rfl rfl rfl rfl rfl rfl rfl ?_); (refine zNp ?_))
      (refine zGo ?_)
      exact ⟨_, _, _, rfl, ⟨i3, ⟨s, by omega, rfl⟩, hi3, rfl⟩, .inr (.inl rfl), ⟨.inr (.inl rfl), trivial⟩, rfl, rfl⟩
  (refine zGo ?_)
  refine pw_cond rfl (fun h1 => ?_) (fun h1 => ?_)
  · (refine zGo ?_)
    refine pw_draw [(0, true), (1, true), (2, true), (3, true), (5, true), (6, true), (7, true), (4, false), (8, false), (9, false), (10, true)] hmix (by decide +kernel) ?_
    (refine zDgo ?_)
    (refine po_val rfl rfl (v_sliceHi (m := m) hT rfl rfl rfl rfl (by omega)) ?_; refine zDn ?_)
    (refine zDgo ?_)
    (refine po_val rfl rfl (v_sliceLo (m := m) hT rfl rfl rfl rfl hml hcap) ?_; refine zDn ?_)
    (refine zDgo ?_)
    (refine po_step rfl rfl (op_litm hT rfl rfl rfl rfl rfl (by decide) rfl rfl rfl rfl ⟨zLok, ?_⟩); refine zDn ?_)
    (refine zDgo ?_)
    (refine po_step rfl rfl (op_appendB (b := 1) (xs := [cb]) hT rfl rfl rfl rfl (Nat.le_refl _) rfl rfl (by omega) (.inr (by decide)) (by omega) (fun cap1 _ _ => ⟨(by (exact zLok)), ?_⟩)); refine po_norm rfl ?_)
    (refine zDgo ?_)
    (refine po_step rfl rfl (op_appendB (b := 1) hT rfl rfl rfl rfl hml rfl rfl (by simp; omega) (.inl (by omega)) (by omega) (fun cap2 _ _ => ⟨(by (exact zLok)), ?_⟩)); refine po_norm rfl ?_)
    (refine zDgo ?_)
    (refine zGo ?_)
    (refine pl_op rfl (v_bstrM (bs := s.take m ++ ((([cb].take 1 ++ (s.drop (0 + m)).take (s.length - m))).drop 0).take (1 + (s.length - m))) hT rfl rfl rfl rfl rfl rfl (by simp; omega) ?_); (refine zNp ?_))
    (refine zGo ?_)
    exact ⟨_, _, _, rfl, ⟨i3, ⟨s.take m ++ ((([cb].take 1 ++ (s.drop (0 + m)).take (s.length - m))).drop 0).take (1 + (s.length - m)), by simp; omega, rfl⟩, hi3, rfl⟩, .inr (.inl rfl), ⟨.inr (.inl rfl), trivial⟩, rfl, rfl⟩
  (refine zGo ?_)
  refine pw_cond rfl (fun h1 => ?_) (fun h1 => ?_)
  · refine pw_shrink 1 m rfl ?_
    refine pw_norm rfl ?_
    rw [← List.map_take]
    (refine zGo ?_)
    (refine pl_op rfl (op_of (v_sliceHi (m := m) hT rfl rfl rfl rfl (by omega)) ?_); (refine zNp ?_))
    (refine zGo ?_)
    (refine pl_op rfl (v_bstrM (bs := s.take m) hT rfl rfl rfl rfl rfl rfl (by simp; omega) ?_); (refine zNp ?_))
    (refine zGo ?_)
    exact ⟨_, _, _, rfl, ⟨i3, ⟨s.take m, by simp; omega, rfl⟩, hi3, rfl⟩, .inr (.inl rfl), ⟨.inr (.inl rfl), trivial⟩, rfl, rfl⟩
  · (refine zGo ?_)
    (refine pl_op rfl (v_bstrM (bs := s) hT rfl rfl rfl rfl rfl rfl rfl ?_); (refine zNp ?_))
    (refine zGo ?_)
    exact ⟨_, _, _, rfl, ⟨i3, ⟨s, by omega, rfl⟩, hi3, rfl⟩, .inr (.inl rfl), ⟨.inr (.inl rfl), trivial⟩, rfl, rfl⟩
end Go.Proofs.YtdehdgbdcfkpbaaGreatDoor
namespace Go.Proofs.YtdehdgbdcfkpbaaGreatDoor
open Go Go.Pw
variable {Gl : Glob}
attribute [local irreducible] PW PWL OpP PCalls PWO
set_option maxHeartbeats 20000000
set_option maxRecDepth 100000

/-! ### lines have numbers -/
theorem lrun_num : ∀ (ls : List Str) (i : Nat) (out : List TLine), (∀ x ∈ out, 0 ≤ x.num) → (∀ x ∈ (lrun ls i out).1, 0 ≤ x.num) ∧ 0 ≤ (lrun ls i out).2.1
  | [], i, out, h => ⟨h, Int.le_refl _⟩
  | l :: ls, i, out, h => by
    unfold lrun
    split
    · exact ⟨fun x hx => (by cases hx), by show (0 : Int) ≤ (i : Int) + 1; omega⟩
    split
    · exact ⟨fun x hx => (by cases hx), by show (0 : Int) ≤ (i : Int) + 1; omega⟩
    split
    · refine lrun_num ls (i + 1) _ fun x hx => ?_
      rcases List.mem_append.1 hx with hx | hx
      · exact h x hx
      · rw [List.mem_singleton] at hx
        subst hx
        show (0 : Int) ≤ (i : Int) + 1; omega
    · exact lrun_num ls (i + 1) out h
theorem lines_num (s : Str) : (∀ x ∈ (lines s).1, 0 ≤ x.num) ∧ 0 ≤ (lines s).2.1 := by
  unfold lines
  split
  · exact ⟨fun x hx => (by cases hx), Int.le_refl _⟩
  · exact lrun_num _ _ _ fun x hx => by cases hx
theorem pRun_num : ∀ (ls : List TLine) (t : Topo) (told : Bool), (∀ x ∈ ls, 0 ≤ x.num) → 0 ≤ (pRun ls t told).2.1
  | [], _, _, _ => Int.le_refl _
  | l :: ls, t, told, h => by
    rw [pRun]
    split
    · exact h l (List.mem_cons_self ..)
    · exact pRun_num ls _ _ fun x hx => h x (List.mem_cons_of_mem _ hx)
theorem tParse_num (s : Str) : 0 ≤ (tParse s).2.1 := by
  unfold tParse
  split
  · exact (lines_num s).2
  · unfold pEnd
    split
    · exact pRun_num _ _ _ (lines_num s).1
    · split
      · exact Int.le_refl _
      · exact Int.le_refl _
theorem c9 (hM : GM Gl) (hG : GT Gl) (l : List Int) (hl : Tp l) (s : Str) : PFun Tryz.prog Gl 9 [.sl (l.map eInt), .str s] fun r => r = .bool true := by
  refine PFun.of hT Tryz.func9 rfl fun B hD => ?_
  refine pw_norm rfl ?_
  (refine zGo ?_)
  (refine pl_op rfl (op_call [] rfl rfl e10 (by decide) rfl rfl rfl zLe zLes (c10 l) (fun r s hq => ?_)); obtain ⟨rfl, rfl⟩ := hq; refine ⟨rfl, rfl, ?_⟩; (refine zNp ?_))
  refine pl_pure hT rfl ?_
  refine pl_nil ?_
  change PW Tryz.prog Gl B _ _ _ _
  refine pw_seq ?_
  refine pw_joinX hD (fun a : Str × Nat => a.2 ≤ l.length) (fun a => [(1, .str a.1)]) (fun a => [tape l a.2]) 1 rfl (fun _ => rfl) (fun _ => rfl) (fun _ => rfl) ?_ ?_
  · (refine zGo ?_)
    (refine pl_op rfl (op_call [0] rfl rfl e13 (by decide) rfl rfl rfl zLe zLes (c13n l hl 0 (Nat.zero_le _) 4 (by decide) (by decide)) (fun r s hq => ?_)); obtain ⟨j1, ⟨k1, hk1, rfl⟩, hj1, rfl⟩ := hq; refine ⟨rfl, rfl, ?_⟩; (refine zNp ?_))
    (refine zGo ?_)
    refine pw_cond rfl (fun h => ?_) (fun h => ?_)
    · (refine zGo ?_)
      (refine pl_op rfl (op_call [0] rfl rfl e14 (by decide) rfl rfl rfl zLe zLes (c14 l hl j1 hj1 3 (by decide) (by decide)) (fun r s hq => ?_)); obtain ⟨j2, T, c, ⟨m, hmn, hg⟩, hj2, rfl, rfl⟩ := hq; refine ⟨rfl, rfl, ?_⟩; (refine zNp ?_))
      have hx := rFormat_len (t := T)
      (refine pl_op rfl (op_lend0 (c11 T ⟨(hg.fit (by omega)).ein, (hg.fit (by omega)).pin⟩) rfl rfl e11 zLef rfl (fun r hr => ?_)); subst hr; refine ⟨rfl, ?_⟩; (refine zNp ?_))
      generalize rFormat T = X at hx
      (refine zGo ?_)
      (refine pl_op rfl (op_call [0] rfl rfl e17 (by decide) rfl rfl rfl zLe zLes (c17 l hl j2 hj2) (fun r s hq => ?_)); obtain ⟨j3, ⟨u, hu, rfl⟩, hj3, rfl⟩ := hq; refine ⟨rfl, rfl, ?_⟩; (refine zNp ?_))
      (refine zGo ?_)
      (refine pl_op rfl (op_of (v_concat rfl rfl rfl (by omega)) ?_); (refine zNp ?_))
      (refine zGo ?_)
      exact ⟨(X.1 ++ u, j3), hj3, by (exact zLe), by (exact zLes)⟩
    · (refine zGo ?_)
      exact ⟨(s, j1), hj1, by (exact zLe), by (exact zLes)⟩
  clear s
  rintro ⟨s, j⟩ hj
  dsimp only at hj ⊢
  have h26 := c26 (Gl := Gl) hM s (lines_ok s)
  have hin := tParse_in s
  have hok := (tParse_lim s).ok
  have hnum := tParse_num s
  by_cases he : (tParse s).2.2 = 0
  · obtain ⟨hv, h0⟩ := tParse_valid he
    have hti : TIn (tParse s).1 := ⟨hin.edges, hin.pools⟩
    rw [h0, he] at h26
    have h20 := c20 (Gl := Gl) (tParse s).1
    rw [hv] at h20
    have hrv : rValid (tParse s).1 = true := by rw [rValid_eq _ hti]; exact hv
    have h34 := c34 hG (tParse s).1 hti
    have hfl := rFormat_len (t := (tParse s).1)
    rw [rFormat_yes hrv] at h34 hfl
    have h2 := c26f hM hti hrv
    have h28 := c28 (Gl := Gl) (tParse s).1 hok
    clear hin hok hnum he hv h0 hti hrv
    dsimp only at hfl
    generalize textS (fLines (tParse s).1) = y at *
    generalize (tParse s).1 = x at *
    (refine zGo ?_)
    (refine pl_op rfl (op_fun (h26) rfl rfl e26 zLe rfl (fun r hr => ?_)); subst hr; refine ⟨rfl, ?_⟩; (refine zNp ?_))
    (refine zGo ?_)
    (refine pl_op rfl (op_fun (h34) rfl rfl e34 zLe rfl (fun r hr => ?_)); subst hr; refine ⟨rfl, ?_⟩; (refine zNp ?_))
    (refine zGo ?_)
    (refine pl_op rfl (op_fun (h2) rfl rfl e26 zLe rfl (fun r hr => ?_)); subst hr; refine ⟨rfl, ?_⟩; (refine zNp ?_))
    (refine zGo ?_)
    (refine pl_on rfl rfl (op_fun (h20) rfl rfl e20 zLe rfl (fun r hr => ?_)); subst hr; refine ⟨rfl, ?_⟩; (refine zNp ?_))
    (refine zGo ?_)
    have hlen : decide ((y.length : Int) > 16384) = false := decide_eq_false (by omega)
    refine pl_split 72 rfl (fun hq => ?_) (fun hq => ?_)
    · rw [hlen] at hq; cases hq
    (refine zGo ?_)
    (refine pl_on rfl rfl (op_fun (h28) rfl rfl e28 zLe rfl (fun r hr => ?_)); subst hr; refine ⟨rfl, ?_⟩; (refine zNp ?_))
    (refine zGo ?_)
    (refine pl_on rfl rfl (op_fun (c18 hM) rfl rfl e18 zLe rfl (fun r hr => ?_)); subst hr; refine ⟨rfl, ?_⟩; (refine zNp ?_))
    (refine zGo ?_)
    exact ret1 _ rfl rfl rfl
  · have h0 := tParse_fault he
    rw [h0] at h26
    have hb : ((tParse s).2.2 != 0) = true := by simpa using he
    generalize (tParse s).2.2 = f at *
    generalize (tParse s).2.1 = n at *
    (refine zGo ?_)
    (refine pl_op rfl (op_fun (h26) rfl rfl e26 zLe rfl (fun r hr => ?_)); subst hr; refine ⟨rfl, ?_⟩; (refine zNp ?_))
    (refine zGo ?_)
    refine pw_cond rfl (fun h => ?_) (fun h => ?_)
    · (refine zGo ?_)
      (refine pl_op rfl (op_lend0 (c28 (Gl := Gl) topo0 topo0_lim.ok) rfl rfl e28 (by (repeat (first | trivial | refine ⟨.inr (.inl rfl), ?_⟩ | refine ⟨.inr (.inr (.inl ⟨rfl, rfl⟩)), ?_⟩ | refine ⟨.inr (.inr (.inr (.inr (.inl ⟨_, _, rfl, rfl, ?_⟩)))), ?_⟩))) rfl (fun r hr => ?_)); subst hr; refine ⟨rfl, ?_⟩; (refine zNp ?_))
      (refine zGo ?_)
      have hn : decide (n ≥ 0) = true := decide_eq_true hnum
      refine pl_split 44 rfl (fun hq => ?_) (fun hq => ?_)
      · (refine zGo ?_)
        (refine pl_on rfl rfl (op_fun (c18 hM) rfl rfl e18 zLe rfl (fun r hr => ?_)); subst hr; refine ⟨rfl, ?_⟩; (refine zNp ?_))
        (refine zGo ?_)
        exact ret1 _ rfl rfl rfl
      · rw [hn] at hq; cases hq
    · have h' : (f != 0) = false := h
      rw [hb] at h'; cases h'
end Go.Proofs.YtdehdgbdcfkpbaaGreatDoor
