/-
  Plain laws of valid topologies: the reference's answer is the program's; no address belongs to two edges.
  Plain laws of the lines of a topology: what a valid topology is like, the lines of its text, and how long they are.
  The texts of IntentCounts: plain.
-/
import Derived.Test.YtkaobkjcjodffaaGreatDoorKLib
import Derived.Test.YtkaobkjcjodffaaGreatDoorKB6
import Derived.Test.YtkaobkjcjodffaaGreatDoorKB9
import Derived.Lib.ItoaNum
import Derived.Test.YtkaobkjcjodffaaGreatDoorJPwEq
import Derived.Test.YtkaobkjcjodffaaGreatDoorJPwGlob
import Derived.Test.YtkaobkjcjodffaaGreatDoorKK13
import Derived.Test.YtkaobkjcjodffaaGreatDoorKK17
namespace Go.Proofs.YtkaobkjcjodffaaGreatDoor
open Go Go.Pw
variable {Gl : Glob}
attribute [local irreducible] PW PWL OpP PCalls PWO
set_option maxHeartbeats 20000000
set_option maxRecDepth 100000
def allI {α : Type} (p : Nat → α → Bool) (l : List α) : Bool := (List.range l.length).all fun i => match l[i]? with | some x => p i x | none => true
end Go.Proofs.YtkaobkjcjodffaaGreatDoor
namespace Go.Proofs.YtkaobkjcjodffaaGreatDoor
open Go Go.Pw
def rvMeet (l : List TPfx) (i : Nat) (p : TPfx) : Bool := !((l.take i).any (rmeet p))
def hit (a : Int) (e : TEdge) : Bool := !e.planned && rcont e.pfx a
def ownA (t : Topo) (a : Int) : Int := firstAt (hit a) t.edges
def Own (a : Int) (l : List TEdge) (k : Nat) (n last : Int) : Prop :=
  (n = 0 ∧ last = -1 ∧ ∀ (j : Nat) x, j < k → l[j]? = some x → hit a x = false) ∨ (∃ i : Nat, n = 1 ∧ last = i ∧ i < k ∧ ∃ x, l[i]? = some x ∧ hit a x = true ∧ ∀ (j : Nat) y, j < i → l[j]? = some y → hit a y = false)
theorem Own.no {a : Int} {l : List TEdge} {k : Nat} {n last : Int} {x : TEdge} (h : Own a l k n last) (hx : l[k]? = some x) (h0 : hit a x = false) : Own a l (k + 1) n last := by
  rcases h with ⟨e1, e2, h1⟩ | ⟨i, e1, e2, hi, h1⟩
  · refine .inl ⟨e1, e2, fun j y hj hy => ?_⟩
    rcases Nat.lt_succ_iff_lt_or_eq.1 hj with hj | rfl
    · exact h1 j y hj hy
    · rw [hx] at hy; cases hy; exact h0
  · exact .inr ⟨i, e1, e2, by omega, h1⟩
theorem Own.fin {a : Int} {t : Topo} {n last : Int} (h : Own a t.edges t.edges.length n last) : 0 ≤ n ∧ n ≤ 1 ∧ ownA t a = last := by
  rcases h with ⟨e1, e2, h1⟩ | ⟨i, e1, e2, hi, y, hy, h1, h2⟩
  · refine ⟨by omega, by omega, ?_⟩
    rw [e2]
    exact firstAt_miss fun j x hx => h1 j x (List.getElem?_eq_some_iff.1 hx).1 hx
  · refine ⟨by omega, by omega, ?_⟩
    rw [e2]
    obtain ⟨hl, rfl⟩ := List.getElem?_eq_some_iff.1 hy
    exact firstAt_hit hl h1 h2
theorem Own.bound {a : Int} {l : List TEdge} {k : Nat} {n last : Int} (h : Own a l k n last) : 0 ≤ n ∧ n ≤ 1 := by
  rcases h with ⟨e1, _⟩ | ⟨i, e1, _⟩ <;> omega
end Go.Proofs.YtkaobkjcjodffaaGreatDoor
namespace Go.Proofs.YtkaobkjcjodffaaGreatDoor
open Go Go.Pw
structure RV (t : Topo) : Prop where
  d1 : 1 ≤ t.devs.length
  d2 : t.devs.length ≤ 12
  l2 : t.links.length ≤ 24
  e2 : t.edges.length ≤ 12
  p2 : t.pools.length ≤ 8
  tol : 0 ≤ t.tol ∧ t.tol ≤ 2
  devI : ∀ (i : Nat) d, t.devs[i]? = some d → vname d.name = true ∧ tDevice t d.name = (i : Int) ∧ 0 ≤ d.cap ∧ d.cap ≤ 4096 ∧ (d.cls = [] ∨ vname d.cls = true)
  link : ∀ l ∈ t.links, 0 ≤ l.a ∧ l.a < l.b ∧ l.b < t.devs.length ∧ 1 ≤ l.cost ∧ l.cost ≤ 1000
  edgeI : ∀ (i : Nat) e, t.edges[i]? = some e → (vname e.name = true ∧ vname e.zone = true) ∧ tEdge t e.name = (i : Int) ∧ (0 ≤ e.dev ∧ e.dev < t.devs.length) ∧ 1 ≤ e.pfx.bits ∧ rvalid e.pfx = true ∧ (e.planned = true → e.pfx.addr = 0)
  fix : allI (rvMeet (fixed t.edges)) (fixed t.edges) = true
  pool : ∀ (i : Nat) p, t.pools[i]? = some p → rvalid p = true ∧ (t.pools.take i).any (rmeet p) = false
theorem RV.dev {t : Topo} (h : RV t) {d : TDev} (hd : d ∈ t.devs) : vname d.name = true ∧ (0 ≤ d.cap ∧ d.cap ≤ 4096) ∧ (d.cls = [] ∨ vname d.cls = true) := by
  obtain ⟨i, hi⟩ := List.mem_iff_getElem?.1 hd
  obtain ⟨h1, _, h2, h3, h4⟩ := h.devI i d hi
  exact ⟨h1, ⟨h2, h3⟩, h4⟩
theorem RV.edge {t : Topo} (h : RV t) {e : TEdge} (he : e ∈ t.edges) : (vname e.name = true ∧ vname e.zone = true) ∧ (0 ≤ e.dev ∧ e.dev < t.devs.length) ∧ 1 ≤ e.pfx.bits ∧ rvalid e.pfx = true ∧ (e.planned = true → e.pfx.addr = 0) := by
  obtain ⟨i, hi⟩ := List.mem_iff_getElem?.1 he
  obtain ⟨h1, _, h2⟩ := h.edgeI i e hi
  exact ⟨h1, h2⟩
def ln (w : List Str) : TLine := ⟨0, w⟩
end Go.Proofs.YtkaobkjcjodffaaGreatDoor
namespace Go.Proofs.YtkaobkjcjodffaaGreatDoor
open Go Go.Pw
set_option maxRecDepth 100000
theorem parts_rep {l : Str} (h : (10 : UInt8) ∉ l) (r : Str) : ∀ k, parts 10 ((List.replicate k (l ++ [10])).flatten ++ r) = List.replicate k l ++ parts 10 r
  | 0 => rfl
  | k + 1 => by
    rw [List.replicate_succ, List.flatten_cons, List.replicate_succ, List.cons_append, ← parts_rep h r k, List.append_assoc, List.append_assoc]
    have := parts_some (c := 10) (a := l) (b := (List.replicate k (l ++ [10])).flatten ++ r) h []
    rw [List.nil_append] at this
    exact this
def numR : Nat → Nat → List Str → List TLine
  | _, 0, _ => []
  | i, k + 1, w => ⟨(i : Int) + 1, w⟩ :: numR (i + 1) k w
theorem lrun_rep {l : Str} {w : List Str} (hw : words l = w) (hp : l.all pbyte = true) (h1 : 0 < w.length) (h2 : w.length ≤ 64) (rest : List Str) : ∀ (k i : Nat) (out : List TLine), lrun (List.replicate k l ++ rest) i out = lrun rest (i + k) (out ++ numR i k w)
  | 0, i, out => by rw [numR, List.append_nil]; rfl
  | k + 1, i, out => by
    rw [List.replicate_succ, List.cons_append, lrun, hp, hw, decide_eq_false (show ¬ (w.length : Int) > 64 by omega), decide_eq_true (show (w.length : Int) > 0 by omega)]
    have := lrun_rep hw hp h1 h2 rest k (i + 1) (out ++ [⟨(i : Int) + 1, w⟩])
    rw [List.append_assoc, show i + 1 + k = i + (k + 1) by omega] at this
    exact this
theorem iRun_rep {w : List Str} {P : Nat → TInt} (rest : List TLine) : ∀ (k i j : Nat), (∀ m, j ≤ m → m < j + k → iLine (P m) w = (0, P (m + 1))) → iRun (numR i k w ++ rest) (P j) = iRun rest (P (j + k))
  | 0, i, j, _ => rfl
  | k + 1, i, j, h => by
    rw [numR, List.cons_append, iRun, h j (Nat.le_refl _) (by omega), if_neg (not_not_intro rfl), iRun_rep rest k (i + 1) (j + 1) fun m h1 h2 => h m (by omega) (by omega), show j + 1 + k = j + (k + 1) by omega]
theorem lines_eq {s : Str} (h : s.length ≤ 16384) : lines s = lrun (parts 10 s) 0 [] := by
  unfold lines
  rw [decide_eq_false (by omega), splitAt_parts]
  rfl
structure CntOk (l : Str) (w : List Str) (P : Nat → TInt) (m : Nat) : Prop where
  no : (10 : UInt8) ∉ l
  len : l.length ≤ 60
  m64 : m ≤ 64
  wds : words l = w
  p : l.all pbyte = true
  h1 : 0 < w.length
  h2 : w.length ≤ 64
  p0 : P 0 = int0
  step : ∀ j, j < m → iLine (P j) w = (0, P (j + 1))
  full : (iLine (P m) w).1 = 3
theorem rep_len (l : Str) : ∀ k, ((List.replicate k (l ++ [10])).flatten).length = k * (l.length + 1)
  | 0 => by simp
  | k + 1 => by
    rw [List.replicate_succ, List.flatten_cons, List.length_append, rep_len l k, Nat.succ_mul]
    simp; omega
theorem cnt_ok {l : Str} {w : List Str} {P : Nat → TInt} {m : Nat} (h : CntOk l w P m) : (iParse ((List.replicate m (l ++ [10])).flatten)).2 = (0, 0) := by
  have hl : ((List.replicate m (l ++ [10])).flatten).length ≤ 16384 := by
    rw [rep_len]
    have h1 := h.len
    have h2 := h.m64
    have : m * (l.length + 1) ≤ 64 * 61 := Nat.mul_le_mul h2 (by omega)
    omega
  have e : lines ((List.replicate m (l ++ [10])).flatten) = (numR 0 m w, 0, 0) := by
    rw [lines_eq hl]
    have := parts_rep h.no [] m
    rw [List.append_nil] at this
    rw [this, lrun_rep h.wds h.p h.h1 h.h2]
    rfl
  unfold iParse
  rw [e, if_neg (not_not_intro rfl)]
  have := iRun_rep (P := P) (w := w) [] m 0 0 (fun j _ hj => h.step j (by omega))
  rw [List.append_nil, h.p0] at this
  show (iRun (numR 0 m w) int0).2 = _
  rw [this]
  rfl
theorem cnt_more {l : Str} {w : List Str} {P : Nat → TInt} {m : Nat} (h : CntOk l w P m) : (iParse (((List.replicate m (l ++ [10])).flatten ++ ([35, 32, 120] ++ [10])) ++ (l ++ [10]) ++ [97, 108, 108, 111, 119])).2 = ((m : Int) + 2, 3) := by
  have hl : (((List.replicate m (l ++ [10])).flatten ++ ([35, 32, 120] ++ [10])) ++ (l ++ [10]) ++ [97, 108, 108, 111, 119]).length ≤ 16384 := by
    rw [List.length_append, List.length_append, List.length_append, rep_len]
    have h1 := h.len
    have h2 := h.m64
    have : m * (l.length + 1) ≤ 64 * 61 := Nat.mul_le_mul h2 (by omega)
    simp
    omega
  have e : lines (((List.replicate m (l ++ [10])).flatten ++ ([35, 32, 120] ++ [10])) ++ (l ++ [10]) ++ [97, 108, 108, 111, 119]) = (numR 0 m w ++ [⟨(m : Int) + 2, w⟩, ⟨(m : Int) + 3, [[97, 108, 108, 111, 119]]⟩], 0, 0) := by
    rw [lines_eq hl, List.append_assoc, List.append_assoc, parts_rep h.no _ m, lrun_rep h.wds h.p h.h1 h.h2]
    have e1 := parts_some (c := 10) (a := [35, 32, 120]) (b := (l ++ [10]) ++ [97, 108, 108, 111, 119]) (by decide) []
    have e2 := parts_some (c := 10) (a := l) (b := [97, 108, 108, 111, 119]) h.no []
    have e3 := parts_none (c := 10) (s := [97, 108, 108, 111, 119]) (by decide) []
    rw [show ([35, 32, 120] ++ [10]) ++ ((l ++ [10]) ++ [97, 108, 108, 111, 119]) = [35, 32, 120] ++ 10 :: ((l ++ [10]) ++ [97, 108, 108, 111, 119]) from rfl]
    rw [show parts 10 ([35, 32, 120] ++ 10 :: ((l ++ [10]) ++ [97, 108, 108, 111, 119])) = [35, 32, 120] :: parts 10 ((l ++ [10]) ++ [97, 108, 108, 111, 119]) from e1]
    rw [show parts 10 ((l ++ [10]) ++ [97, 108, 108, 111, 119]) = l :: parts 10 [97, 108, 108, 111, 119] from by rw [List.append_assoc]; exact e2]
    rw [show parts 10 [97, 108, 108, 111, 119] = [[97, 108, 108, 111, 119]] from e3]
    have hw1 : words [35, 32, 120] = [] := by decide +kernel
    have hw2 : words [97, 108, 108, 111, 119] = [[97, 108, 108, 111, 119]] := by decide +kernel
    have h1 := h.h1
    have h2 := h.h2
    rw [lrun, hw1, show ([35, 32, 120] : Str).all pbyte = true from by decide +kernel]
    show lrun [l, [97, 108, 108, 111, 119]] (0 + m + 1) _ = _
    rw [lrun, h.wds, h.p, decide_eq_false (show ¬ (w.length : Int) > 64 by omega), decide_eq_true (show (w.length : Int) > 0 by omega)]
    show lrun [[97, 108, 108, 111, 119]] (0 + m + 1 + 1) _ = _
    rw [lrun, hw2, show ([97, 108, 108, 111, 119] : Str).all pbyte = true from by decide +kernel]
    show (((([] : List TLine) ++ numR 0 m w) ++ [⟨((0 + m + 1 : Nat) : Int) + 1, w⟩]) ++ [⟨((0 + m + 1 + 1 : Nat) : Int) + 1, [[97, 108, 108, 111, 119]]⟩], (0 : Int), (0 : Int)) = _
    rw [List.nil_append, List.append_assoc, show ((0 + m + 1 : Nat) : Int) + 1 = (m : Int) + 2 by omega, show ((0 + m + 1 + 1 : Nat) : Int) + 1 = (m : Int) + 3 by omega]
    rfl
  unfold iParse
  rw [e, if_neg (not_not_intro rfl)]
  have := iRun_rep (P := P) (w := w) [⟨(m : Int) + 2, w⟩, ⟨(m : Int) + 3, [[97, 108, 108, 111, 119]]⟩] m 0 0 (fun j _ hj => h.step j (by omega))
  rw [h.p0, Nat.zero_add] at this
  show (iRun (numR 0 m w ++ _) int0).2 = _
  rw [this, iRun, h.full, if_pos (by decide)]
def cw0 : List Str := [[97, 108, 108, 111, 119], [97, 110, 121], [45, 62], [97, 110, 121], [97, 110, 121]]
def cw1 : List Str := [[112, 117, 98, 108, 105, 115, 104], [49, 46, 50, 46, 51, 46, 52], [116, 99, 112], [56, 48], [97, 116], [101, 49], [116, 111], [49, 48, 46, 48, 46, 48, 46, 49], [56, 48, 56, 48]]
def cw2 : List Str := [[104, 105, 100, 101], [103, 49], [97, 116], [101, 49], [98, 101, 104, 105, 110, 100], [49, 46, 50, 46, 51, 46, 52], [112, 111, 114, 116, 115], [49, 48, 50, 52]]
def cw3 : List Str := [[100, 101, 110, 121], [97, 110, 121], [45, 62], [97, 110, 121], [97, 110, 121]]
theorem step_stm {w : List Str} {x : TStm} (h : rdStm w = (0, x)) (j : Nat) : pStm (List.replicate j x) w = if 64 ≤ j then (3, List.replicate j x) else (0, List.replicate (j + 1) x) := by
  unfold pStm
  rw [h, if_neg (not_not_intro rfl), List.length_replicate, List.replicate_succ']
def cntX (pm : Bool) : TStm := ⟨pm, [], [], [], false, [], [], [], [], 0⟩
def cntP : TPub := ⟨16909060, 6, 80, [101, 49], 167772161, 8080⟩
def cntH : THid := ⟨[103, 49], [101, 49], 16909060, ⟨1024, 1024⟩⟩
theorem cnt0 : CntOk [97, 108, 108, 111, 119, 32, 97, 110, 121, 32, 45, 62, 32, 97, 110, 121, 32, 97, 110, 121] cw0 (fun j => { int0 with stms := List.replicate j (cntX true) }) 64 := by
  have h : rdStm cw0 = (0, cntX true) := by show rdStm _ = _; kernel_rfl
  refine ⟨by decide, by decide, by decide, by decide +kernel, by decide +kernel, by decide, by decide, rfl, fun j hj => ?_, ?_⟩
  · show ((pStm (List.replicate j (cntX true)) cw0).1, { int0 with stms := (pStm (List.replicate j (cntX true)) cw0).2 }) = _
    rw [step_stm h, if_neg (by omega)]
  · show (pStm (List.replicate 64 (cntX true)) cw0).1 = 3
    rw [step_stm h, if_pos (by omega)]
theorem cnt3 : CntOk [100, 101, 110, 121, 32, 97, 110, 121, 32, 45, 62, 32, 97, 110, 121, 32, 97, 110, 121] cw3 (fun j => { int0 with stms := List.replicate j (cntX false) }) 64 := by
  have h : rdStm cw3 = (0, cntX false) := by show rdStm _ = _; kernel_rfl
  refine ⟨by decide, by decide, by decide, by decide +kernel, by decide +kernel, by decide, by decide, rfl, fun j hj => ?_, ?_⟩
  · show ((pStm (List.replicate j (cntX false)) cw3).1, { int0 with stms := (pStm (List.replicate j (cntX false)) cw3).2 }) = _
    rw [step_stm h, if_neg (by omega)]
  · show (pStm (List.replicate 64 (cntX false)) cw3).1 = 3
    rw [step_stm h, if_pos (by omega)]
theorem cnt1 : CntOk [112, 117, 98, 108, 105, 115, 104, 32, 49, 46, 50, 46, 51, 46, 52, 32, 116, 99, 112, 32, 56, 48, 32, 97, 116, 32, 101, 49, 32, 116, 111, 32, 49, 48, 46, 48, 46, 48, 46, 49, 32, 56, 48, 56, 48] cw1 (fun j => { int0 with pubs := List.replicate j cntP }) 16 := by
  have h0 : pPub [] cw1 = (0, [cntP]) := by show pPub _ _ = _; kernel_rfl
  have h (j : Nat) : pPub (List.replicate j cntP) cw1 = if 16 ≤ j then (3, List.replicate j cntP) else (0, List.replicate (j + 1) cntP) := by
    unfold pPub at h0 ⊢
    split at h0
    · cases h0
    split at h0
    · cases h0
    split at h0
    · cases h0
    rename_i a1 a2 a3
    rw [if_neg a1, if_neg a2, if_neg a3, List.length_replicate, List.replicate_succ']
    rw [if_neg (by decide)] at h0
    injection h0 with _ h0
    injection h0 with h0
    rw [h0]
  refine ⟨by decide, by decide, by decide, by decide +kernel, by decide +kernel, by decide, by decide, rfl, fun j hj => ?_, ?_⟩
  · show ((pPub (List.replicate j cntP) cw1).1, { int0 with pubs := (pPub (List.replicate j cntP) cw1).2 }) = _
    rw [h, if_neg (by omega)]
  · show (pPub (List.replicate 16 cntP) cw1).1 = 3
    rw [h, if_pos (by omega)]
theorem cnt2 : CntOk [104, 105, 100, 101, 32, 103, 49, 32, 97, 116, 32, 101, 49, 32, 98, 101, 104, 105, 110, 100, 32, 49, 46, 50, 46, 51, 46, 52, 32, 112, 111, 114, 116, 115, 32, 49, 48, 50, 52] cw2 (fun j => { int0 with hids := List.replicate j cntH }) 8 := by
  have h0 : pHid [] cw2 = (0, [cntH]) := by show pHid _ _ = _; kernel_rfl
  have h (j : Nat) : pHid (List.replicate j cntH) cw2 = if 8 ≤ j then (3, List.replicate j cntH) else (0, List.replicate (j + 1) cntH) := by
    unfold pHid at h0 ⊢
    split at h0
    · cases h0
    split at h0
    · cases h0
    split at h0
    · cases h0
    rename_i a1 a2 a3
    rw [if_neg a1, if_neg a2, if_neg a3, List.length_replicate, List.replicate_succ']
    rw [if_neg (by decide)] at h0
    injection h0 with _ h0
    injection h0 with h0
    rw [h0]
  refine ⟨by decide, by decide, by decide, by decide +kernel, by decide +kernel, by decide, by decide, rfl, fun j hj => ?_, ?_⟩
  · show ((pHid (List.replicate j cntH) cw2).1, { int0 with hids := (pHid (List.replicate j cntH) cw2).2 }) = _
    rw [h, if_neg (by omega)]
  · show (pHid (List.replicate 8 cntH) cw2).1 = 3
    rw [h, if_pos (by omega)]
theorem cnt_all (n : Nat) (hn : n < 4) : (iParse (cntText n (cntMost n))).2 = (0, 0) ∧ (iParse ((cntText n (cntMost n) ++ ([35, 32, 120] ++ [10])) ++ cntLine n ++ [97, 108, 108, 111, 119])).2 = ((cntMost n : Int) + 2, 3) := by
  match n, hn with
  | 0, _ => exact ⟨cnt_ok cnt0, cnt_more cnt0⟩
  | 1, _ => exact ⟨cnt_ok cnt1, cnt_more cnt1⟩
  | 2, _ => exact ⟨cnt_ok cnt2, cnt_more cnt2⟩
  | 3, _ => exact ⟨cnt_ok cnt3, cnt_more cnt3⟩
end Go.Proofs.YtkaobkjcjodffaaGreatDoor
namespace Go.Proofs.YtkaobkjcjodffaaGreatDoor
open Go Go.Pw
variable {Gl : Glob}
attribute [local irreducible] PW PWL OpP PCalls PWO iParse
set_option maxHeartbeats 20000000
set_option maxRecDepth 100000
def lits4 : List Str := [cntLine 0, cntLine 1, cntLine 2, cntLine 3]
def most4 : List Int := [64, 16, 8, 64]
theorem lits4_at {n : Nat} (h : n < 4) : lits4.getD n [] = cntLine n := by
  match n, h with
  | 0, _ => rfl
  | 1, _ => rfl
  | 2, _ => rfl
  | 3, _ => rfl
theorem most4_at {n : Nat} (h : n < 4) : most4.getD n 0 = (cntMost n : Int) ∧ cntMost n ≤ 64 ∧ (cntLine n).length ≤ 47 := by
  match n, h with
  | 0, _ => exact ⟨rfl, by decide, by decide⟩
  | 1, _ => exact ⟨rfl, by decide, by decide⟩
  | 2, _ => exact ⟨rfl, by decide, by decide⟩
  | 3, _ => exact ⟨rfl, by decide, by decide⟩
theorem cntText_succ (n i : Nat) : cntText n (i + 1) = cntText n i ++ cntLine n := by
  unfold cntText
  rw [List.replicate_succ', List.flatten_append]
  simp
theorem cntText_len {n : Nat} (hl : (cntLine n).length ≤ 47) : ∀ i, (cntText n i).length ≤ 47 * i
  | 0 => Nat.zero_le _
  | i + 1 => by
    rw [cntText_succ, List.length_append]
    have := cntText_len hl i
    omega
theorem c4 (hG : GM Gl) (hD' : GD Gl) (l : List Int) (hl : Tp l) : PFun Tryz.prog Gl 4 [.sl (l.map eInt)] fun r => r = .bool true := by
  (refine PFun.of hT Tryz.func4 rfl fun B hD => ?_; refine pw_norm rfl ?_)
  (repeat' (first | refine zS ?_ | refine zlA1 rfl rfl rfl rfl zB rfl rfl (zNp ?_) | refine zlO1 rfl rfl rfl rfl zB rfl rfl (zNp ?_) | refine zlA2 rfl rfl rfl rfl zB rfl rfl (zNp ?_) | refine zlO2 rfl rfl rfl rfl zB rfl rfl (zNp ?_) | refine zlA3 rfl rfl rfl rfl zB rfl rfl (zNp ?_) | refine zlO3 rfl rfl rfl rfl zB rfl rfl (zNp ?_) | (refine pw_test rfl rfl zB ?_ ?_ <;> intro h <;> first | (exfalso; omega) | refine zNq ?_)))
  (refine pl_op rfl (op_call [] rfl rfl e10 (by decide) rfl rfl rfl zLe zLes (c10 l) (fun r s hq => ?_)); obtain ⟨rfl, rfl⟩ := hq; refine ⟨rfl, rfl, ?_⟩; (refine zNp ?_))
  (repeat' (first | refine zS ?_ | refine zlA1 rfl rfl rfl rfl zB rfl rfl (zNp ?_) | refine zlO1 rfl rfl rfl rfl zB rfl rfl (zNp ?_) | refine zlA2 rfl rfl rfl rfl zB rfl rfl (zNp ?_) | refine zlO2 rfl rfl rfl rfl zB rfl rfl (zNp ?_) | refine zlA3 rfl rfl rfl rfl zB rfl rfl (zNp ?_) | refine zlO3 rfl rfl rfl rfl zB rfl rfl (zNp ?_) | (refine pw_test rfl rfl zB ?_ ?_ <;> intro h <;> first | (exfalso; omega) | refine zNq ?_)))
  (refine pl_op rfl (op_call [0] rfl rfl e17 (by decide) rfl rfl rfl zLe zLes (c13n l hl 0 (Nat.zero_le _) 4 (by decide) (by decide)) (fun r s hq => ?_)); obtain ⟨j1, ⟨n, hn, rfl⟩, hj1, rfl⟩ := hq; refine ⟨rfl, rfl, ?_⟩; (refine zNp ?_))
  (repeat' (first | refine zS ?_ | refine zlA1 rfl rfl rfl rfl zB rfl rfl (zNp ?_) | refine zlO1 rfl rfl rfl rfl zB rfl rfl (zNp ?_) | refine zlA2 rfl rfl rfl rfl zB rfl rfl (zNp ?_) | refine zlO2 rfl rfl rfl rfl zB rfl rfl (zNp ?_) | refine zlA3 rfl rfl rfl rfl zB rfl rfl (zNp ?_) | refine zlO3 rfl rfl rfl rfl zB rfl rfl (zNp ?_) | (refine pw_test rfl rfl zB ?_ ?_ <;> intro h <;> first | (exfalso; omega) | refine zNq ?_)))
  have hm := most4_at hn
  (refine pl_op rfl (op_of (v_index (p := .int .i64 (most4.getD n 0)) hT rfl rfl rfl rfl (by omega) (lit_at (.int .i64) most4 n 0 hn) rfl) ?_); (refine zNp ?_))
  rw [hm.1]
  (repeat' (first | refine zS ?_ | refine zlA1 rfl rfl rfl rfl zB rfl rfl (zNp ?_) | refine zlO1 rfl rfl rfl rfl zB rfl rfl (zNp ?_) | refine zlA2 rfl rfl rfl rfl zB rfl rfl (zNp ?_) | refine zlO2 rfl rfl rfl rfl zB rfl rfl (zNp ?_) | refine zlA3 rfl rfl rfl rfl zB rfl rfl (zNp ?_) | refine zlO3 rfl rfl rfl rfl zB rfl rfl (zNp ?_) | (refine pw_test rfl rfl zB ?_ ?_ <;> intro h <;> first | (exfalso; omega) | refine zNq ?_)))
  refine zNq ?_
  refine pw_for hD (fun i : Nat => [(7, .str (cntText n i)), (8, .int .i64 i)]) (fun _ => [tape l j1]) (fun i => i ≤ cntMost n) (fun i => cntMost n - i) 0 (Nat.zero_le _) 1 rfl (fun _ => rfl) (by (exact zLes)) (fun _ => rfl) (fun _ => rfl) (by (exact zLe)) ?_
  intro i hi
  have hlen := cntText_len hm.2.2 i
  obtain ⟨hm0, hm1, hm2⟩ := hm
  (repeat' (first | refine zS ?_ | refine zlA1 rfl rfl rfl rfl zB rfl rfl (zNp ?_) | refine zlO1 rfl rfl rfl rfl zB rfl rfl (zNp ?_) | refine zlA2 rfl rfl rfl rfl zB rfl rfl (zNp ?_) | refine zlO2 rfl rfl rfl rfl zB rfl rfl (zNp ?_) | refine zlA3 rfl rfl rfl rfl zB rfl rfl (zNp ?_) | refine zlO3 rfl rfl rfl rfl zB rfl rfl (zNp ?_) | (refine pw_test rfl rfl zB ?_ ?_ <;> intro h <;> first | (exfalso; omega) | refine zNq ?_)))
  · (refine pl_op rfl (op_of (v_index (p := .str (lits4.getD n [])) hT rfl rfl rfl rfl (by omega) (lit_at .str lits4 n [] hn) rfl) ?_); (refine zNp ?_))
    rw [lits4_at hn]
    (repeat' (first | refine zS ?_ | refine zlA1 rfl rfl rfl rfl zB rfl rfl (zNp ?_) | refine zlO1 rfl rfl rfl rfl zB rfl rfl (zNp ?_) | refine zlA2 rfl rfl rfl rfl zB rfl rfl (zNp ?_) | refine zlO2 rfl rfl rfl rfl zB rfl rfl (zNp ?_) | refine zlA3 rfl rfl rfl rfl zB rfl rfl (zNp ?_) | refine zlO3 rfl rfl rfl rfl zB rfl rfl (zNp ?_) | (refine pw_test rfl rfl zB ?_ ?_ <;> intro h <;> first | (exfalso; omega) | refine zNq ?_)))
    rw [← cntText_succ]
    exact ⟨i + 1, by omega, by omega, by (exact zLe), by (exact zLes)⟩
  · obtain rfl : i = cntMost n := by omega
    have hc := cnt_all n hn
    (refine pl_op rfl (op_fun (c_iParse hG hD' (cntText n (cntMost n))) rfl rfl e19 zLe rfl (fun r hr => ?_)); subst hr; refine ⟨rfl, ?_⟩; (refine zNp ?_))
    rw [hc.1]
    (repeat' (first | refine zS ?_ | refine zlA1 rfl rfl rfl rfl zB rfl rfl (zNp ?_) | refine zlO1 rfl rfl rfl rfl zB rfl rfl (zNp ?_) | refine zlA2 rfl rfl rfl rfl zB rfl rfl (zNp ?_) | refine zlO2 rfl rfl rfl rfl zB rfl rfl (zNp ?_) | refine zlA3 rfl rfl rfl rfl zB rfl rfl (zNp ?_) | refine zlO3 rfl rfl rfl rfl zB rfl rfl (zNp ?_) | (refine pw_test rfl rfl zB ?_ ?_ <;> intro h <;> first | (exfalso; omega) | refine zNq ?_)))
    (refine pl_op rfl (op_of (v_index (p := .str (lits4.getD n [])) hT rfl rfl rfl rfl (by omega) (lit_at .str lits4 n [] hn) rfl) ?_); (refine zNp ?_))
    rw [lits4_at hn]
    (repeat' (first | refine zS ?_ | refine zlA1 rfl rfl rfl rfl zB rfl rfl (zNp ?_) | refine zlO1 rfl rfl rfl rfl zB rfl rfl (zNp ?_) | refine zlA2 rfl rfl rfl rfl zB rfl rfl (zNp ?_) | refine zlO2 rfl rfl rfl rfl zB rfl rfl (zNp ?_) | refine zlA3 rfl rfl rfl rfl zB rfl rfl (zNp ?_) | refine zlO3 rfl rfl rfl rfl zB rfl rfl (zNp ?_) | (refine pw_test rfl rfl zB ?_ ?_ <;> intro h <;> first | (exfalso; omega) | refine zNq ?_)))
    (refine pl_op rfl (op_fun (c_iParse hG hD' ((cntText n (cntMost n) ++ ([35, 32, 120] ++ [10])) ++ cntLine n ++ [97, 108, 108, 111, 119])) rfl rfl e19 zLe rfl (fun r hr => ?_)); subst hr; refine ⟨rfl, ?_⟩; (refine zNp ?_))
    rw [hc.2]
    (repeat' (first | refine zS ?_ | refine zlA1 rfl rfl rfl rfl zB rfl rfl (zNp ?_) | refine zlO1 rfl rfl rfl rfl zB rfl rfl (zNp ?_) | refine zlA2 rfl rfl rfl rfl zB rfl rfl (zNp ?_) | refine zlO2 rfl rfl rfl rfl zB rfl rfl (zNp ?_) | refine zlA3 rfl rfl rfl rfl zB rfl rfl (zNp ?_) | refine zlO3 rfl rfl rfl rfl zB rfl rfl (zNp ?_) | (refine pw_test rfl rfl zB ?_ ?_ <;> intro h <;> first | (exfalso; omega) | refine zNq ?_)))
    exact ret2 _ rfl (by simp) rfl
end Go.Proofs.YtkaobkjcjodffaaGreatDoor
