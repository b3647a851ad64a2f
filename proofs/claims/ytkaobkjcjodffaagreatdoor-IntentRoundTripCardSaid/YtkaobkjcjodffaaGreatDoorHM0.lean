/-
 Words of windows: what the program and the reference read out of them is the same.
-/
import Derived.Test.YtkaobkjcjodffaaGreatDoorHP3
import Derived.Test.YtkaobkjcjodffaaGreatDoorGPwBox
set_option maxHeartbeats 20000000
set_option maxRecDepth 100000
namespace Go.Proofs.YtkaobkjcjodffaaGreatDoor
open Go Go.Pw
section
theorem cut_cases (c : UInt8) (s : Str) : (c ∉ s ∧ Lib.cut s [c] = (s, [], false) ∧ parts c s = [s]) ∨ ∃ a b, s = a ++ c :: b ∧ c ∉ a ∧ Lib.cut s [c] = (a, b, true) ∧ parts c s = a :: parts c b := by
 rcases index_one c s with ⟨h1, h2⟩ | ⟨a, b, h1, h2, h3⟩
 ·exact .inl ⟨h1, by unfold Lib.cut; rw [h2, if_neg (by decide)], by unfold parts; rw [parts_none h1]; rfl⟩
 ·exact .inr ⟨a, b, h1, h2, by unfold Lib.cut; rw [h3, if_pos (by omega), h1]; simp, by rw [h1]; exact parts_some h2 []⟩
theorem pair2_byte {s : Str} (h : 0 ≤ pair2 s) : s.length = 2 ∧ ∀ c ∈ s, 48 ≤ c.toNat ∧ c.toNat ≤ 57 := by
 unfold pair2 at h
 split at h
 ·rename_i h1
  refine ⟨h1.1, fun c hc => ?_⟩
  match s, h1 with
  | [a, b], h1 =>
   simp at hc h1
   rcases hc with rfl | rfl <;> omega
 ·omega
def rclock (s : Str) : Int := if s = [50, 52, 58, 48, 48] then 1440 else if s.length = 5 ∧ s.getD 2 0 = 58 ∧ 0 ≤ pair2 (s.take 2) ∧ pair2 (s.take 2) ≤ 23 ∧ 0 ≤ pair2 (s.drop 3) ∧ pair2 (s.drop 3) ≤ 59 then 60 * pair2 (s.take 2) + pair2 (s.drop 3) else -1
theorem cut_at {c : UInt8} {a b : Str} (h : c ∉ a) : Lib.cut (a ++ c :: b) [c] = (a, b, true) := by
 rcases cut_cases c (a ++ c :: b) with ⟨h1, _⟩ | ⟨x, y, h1, h2, h3, _⟩
 ·exact absurd (by simp) h1
 ·have ht : ∀ (u v : Str), c ∉ u → (u ++ c :: v).takeWhile (fun x => !(x == c)) = u := fun u v hu => by
   rw [List.takeWhile_append_of_pos (fun x hx => by simp; rintro rfl; exact hu hx)]; simp
  have h4 := congrArg (fun l => l.takeWhile (fun x => !(x == c))) h1

  rw [ht _ _ h, ht _ _ h2] at h4
  subst h4
  have h5 := (List.cons.inj (List.append_cancel_left h1)).2
  subst h5
  exact h3
theorem five_split {s : Str} (h4 : s.length = 5) (h5 : s.getD 2 0 = 58) : s = s.take 2 ++ 58 :: s.drop 3 := by
 match s with
 | [x1, x2, x3, x4, x5] => simp at h5; subst h5; rfl
 | [] | [_] | [_, _] | [_, _, _] | [_, _, _, _] | _ :: _ :: _ :: _ :: _ :: _ :: _ => simp at h4
theorem hm_of {a b : Str} (h : 0 ≤ pair2 a ∧ pair2 a ≤ 23 ∧ 0 ≤ pair2 b ∧ pair2 b ≤ 59) : hm a b true = 60 * pair2 a + pair2 b := if_pos ⟨rfl, h⟩
theorem rclock_eq (s : Str) : rclock s = clock s := by
 unfold rclock clock
 split
 ·rfl
 split
 ·rename_i h
  obtain ⟨h4, h5, h6⟩ := h
  have hn : (58 : UInt8) ∉ s.take 2 := fun hm => by have := (pair2_byte h6.1).2 _ hm; revert this; decide
  have e : Lib.cut s [58] = (s.take 2, s.drop 3, true) := by
   have := cut_at (b := s.drop 3) hn
   rwa [← five_split h4 h5] at this
  rw [e]
  exact (hm_of h6).symm
 ·rename_i h0 h
  unfold hm
  rcases cut_cases 58 s with ⟨h1, h2, _⟩ | ⟨a, b, h1, h2, h3, _⟩
  ·rw [h2, if_neg (by simp)]
  ·rw [h3]
   rw [if_neg]
   rintro ⟨_, hc⟩
   dsimp only at hc
   obtain ⟨ha, _⟩ := pair2_byte hc.1
   obtain ⟨hb, _⟩ := pair2_byte hc.2.2.1
   have e1 : s.take 2 = a := by rw [h1, ← ha]; simp
   have e2 : s.drop 3 = b := by rw [h1, show 3 = a.length + 1 by omega]; simp
   have e3 : s.getD 2 0 = 58 := by rw [h1, ← ha]; simp
   exact h ⟨by rw [h1]; simp; omega, e3, by rw [e1, e2]; exact hc⟩
theorem dayIx_dash {s : Str} (h : (45 : UInt8) ∈ s) : dayIx s = -1 := by
 unfold dayIx
 refine firstAt_miss fun j x hx => ?_
 have : x ∈ dayNames := List.mem_of_getElem? hx
 rw [beq_eq_false_iff_ne]
 rintro rfl
 have hd : ∀ y ∈ dayNames, (45 : UInt8) ∉ y := by decide
 exact hd _ this h
theorem clock_dash {s : Str} (h : (45 : UInt8) ∈ s) : clock s = -1 := by
 rw [← rclock_eq]
 unfold rclock
 rw [if_neg (by rintro rfl; revert h; decide), if_neg]
 rintro ⟨h4, h5, h6⟩
 rw [five_split h4 h5] at h
 rcases List.mem_append.1 h with h | h
 ·have := (pair2_byte h6.1).2 _ h; revert this; decide
 ·rcases List.mem_cons.1 h with h | h
  ·revert h; decide
  ·have := (pair2_byte h6.2.2.1).2 _ h; revert this; decide
theorem clock_nil : clock [] = -1 := by decide
def spanA (w : Str) : Int := dayIx (Lib.cut w [45]).1
def spanB (w : Str) : Int := dayIx (if (Lib.cut w [45]).2.2 = true then (Lib.cut w [45]).2.1 else (Lib.cut w [45]).1)
def spanOk (w : Str) : Bool := decide (spanA w ≥ 0) && decide (spanB w ≥ spanA w)
def timeA (w : Str) : Int := clock (Lib.cut w [45]).1
def timeB (w : Str) : Int := clock (Lib.cut w [45]).2.1
def timeOk (w : Str) : Bool := decide (timeA w ≥ 0) && decide (timeB w > timeA w)
def rspan (w : Str) : Int × Int := if (parts 45 w).length > 2 then (-1, -1) else if dayIx ((parts 45 w).getD 0 []) < 0 ∨ dayIx ((parts 45 w).getD ((parts 45 w).length - 1) []) < dayIx ((parts 45 w).getD 0 []) then (-1, -1) else (dayIx ((parts 45 w).getD 0 []), dayIx ((parts 45 w).getD ((parts 45 w).length - 1) []))
def rtimes (w : Str) : Int × Int := if (parts 45 w).length ≠ 2 then (-1, -1) else if clock ((parts 45 w).getD 0 []) < 0 ∨ clock ((parts 45 w).getD 1 []) ≤ clock ((parts 45 w).getD 0 []) then (-1, -1) else (clock ((parts 45 w).getD 0 []), clock ((parts 45 w).getD 1 []))
theorem rspan_eq (w : Str) : rspan w = if spanOk w = true then (spanA w, spanB w) else (-1, -1) := by
 unfold rspan spanOk spanA spanB
 rcases cut_cases 45 w with ⟨h1, h2, h3⟩ | ⟨a, b, h1, h2, h3, h4⟩
 ·rw [h2, h3]
  simp
  split <;> split <;> first | rfl | exact zX
 ·rw [h3, h4]
  by_cases hb : (45 : UInt8) ∈ b
  ·have := List.count_pos_iff.2 hb
   rw [if_pos (by rw [List.length_cons, parts_len]; omega), if_neg]
   simp [dayIx_dash hb]
   intro h; omega
  ·have e : parts 45 b = [b] := by unfold parts; rw [parts_none hb]; rfl
   rw [e]
   simp
   split <;> split <;> first | rfl | exact zX
theorem rtimes_eq (w : Str) : rtimes w = if timeOk w = true then (timeA w, timeB w) else (-1, -1) := by
 unfold rtimes timeOk timeA timeB
 rcases cut_cases 45 w with ⟨h1, h2, h3⟩ | ⟨a, b, h1, h2, h3, h4⟩
 ·rw [h2, h3]
  simp [clock_nil]
  intro h; omega
 ·rw [h3, h4]
  by_cases hb : (45 : UInt8) ∈ b
  ·have := List.count_pos_iff.2 hb
   rw [if_pos (by rw [List.length_cons, parts_len]; omega), if_neg]
   simp [clock_dash hb]
   intro h; omega
  ·have e : parts 45 b = [b] := by unfold parts; rw [parts_none hb]; rfl
   rw [e]
   simp
   split <;> split <;> first | rfl | exact zX
variable {Gl : Glob}
attribute [local irreducible] PW PWL OpP PCalls PWO
theorem cut_len1 (s sep : Str) : (Lib.cut s sep).1.length ≤ s.length := (cut_len s sep).1
theorem cut_len2 (s sep : Str) : (Lib.cut s sep).2.1.length ≤ s.length := (cut_len s sep).2
theorem c_days (hG : GM Gl) (hD' : GD Gl) (w : Str) (hs : w.length < 4294967281) : PFun Tryz.prog Gl 141 [.str w] fun r => r = .tup [.int .i64 (spanA w), .int .i64 (spanB w), .bool (spanOk w)] := by
 (refine PFun.of hT Tryz.func141 rfl fun B hD => ?_; refine pw_norm rfl ?_)
 (repeat' (first | refine zS ?_ | refine zq5 ?_ | refine zq6 ?_ | (refine zT ?_ ?_ <;> intro h <;> first | exact zX | refine zNq ?_)))
 ·refine ret2 _ rfl ?_ rfl
  simp only [spanA, spanB, spanOk, h]; rfl
 ·have h : (Lib.cut w [45]).2.2 = true := by simpa using h
  refine ret2 _ rfl ?_ rfl
  simp only [spanA, spanB, spanOk, h]; rfl
instance (w : Str) : ConF Tryz.prog Gl 141 [.str w] (GM Gl ∧ GD Gl ∧ w.length < 4294967281) (.tup [.int .i64 (spanA w), .int .i64 (spanB w), .bool (spanOk w)]) := ⟨e141, fun h => c_days h.1 h.2.1 w h.2.2⟩
theorem c_times (hG : GM Gl) (w : Str) (hs : w.length < 4294967281) : PFun Tryz.prog Gl 142 [.str w] fun r => r = .tup [.int .i64 (timeA w), .int .i64 (timeB w), .bool (timeOk w)] := by
 (refine PFun.of hT Tryz.func142 rfl fun B hD => ?_; refine pw_norm rfl ?_)
 have h1 := cut_len1 w [45]
 have h2 := cut_len2 w [45]
 (repeat' (first | refine zS ?_ | refine zq5 ?_ | refine zq6 ?_ | (refine zT ?_ ?_ <;> intro h <;> first | exact zX | refine zNq ?_)))
 exact ret1 _ rfl rfl rfl
instance (w : Str) : ConF Tryz.prog Gl 142 [.str w] (GM Gl ∧ w.length < 4294967281) (.tup [.int .i64 (timeA w), .int .i64 (timeB w), .bool (timeOk w)]) := ⟨e142, fun h => c_times h.1 w h.2⟩
def twoS (n : Int) : Str := [UInt8.ofNat (48 + n.toNat / 10), UInt8.ofNat (48 + n.toNat % 10)]
def timeS (n : Int) : Str := twoS (n / 60) ++ [58] ++ twoS (n % 60)
theorem c_rclock (s : Str) : PFun Tryz.prog Gl 160 [.str s] fun r => r = .int .i64 (clock s) := by
 (refine PFun.of hT Tryz.func160 rfl fun B hD => ?_; refine pw_norm rfl ?_)
 have hl := pair2_range (s.take 2)
 have hr := pair2_range (s.drop 3)
 (repeat' (first | (refine zDr [[0,1,3,4],[2,5],[6,7]] ?_; refine zDn ?_) | refine zS ?_ | refine zD ?_ | refine po_both ?_ ?_ | refine pwt_both ?_ ?_ | refine pwt_fork ?_ | refine pwt_lin ?_ | (refine po_test rfl rfl rfl rfl zB ?_ ?_ <;> intro hb <;> first | exact zX | refine zDn ?_) | refine zq5 ?_ | refine zq6 ?_ | (refine zT ?_ ?_ <;> intro h <;> first | exact zX | refine zNq ?_)))
 all_goals (refine ret2 _ rfl ?_ rfl; rw [← rclock_eq]; refine iE ?_; unfold rclock)
 ·rw [if_pos h]
 ·rename_i h0
  rw [if_neg h0, if_neg]
  rintro ⟨h1, h2, _⟩
  rw [h1, h2] at h
  revert h; decide
 ·rename_i h0 h1
  rw [if_neg h0, if_neg]
  omega
 ·rename_i h0 h1
  rw [if_neg h0, if_pos]
  refine ⟨by omega, UInt8.toNat_inj.1 (show _ = 58 by omega), by omega, by omega, by omega, by omega⟩
instance (s : Str) : ConF Tryz.prog Gl 160 [.str s] True (.int .i64 (clock s)) := ⟨e160, fun _ => c_rclock s⟩
theorem parts_pos (c : UInt8) (s : Str) : 0 < (parts c s).length := by rw [parts_len]; omega
theorem parts_small (c : UInt8) (s : Str) : (parts c s).length ≤ s.length + 1 := by rw [parts_len]; have := List.count_le_length (a := c) (l := s); omega
theorem c_rspan (w : Str) (hs : w.length < 4294967281) : PFun Tryz.prog Gl 128 [.str w] fun r => r = if spanOk w = true then .tup [.int .i64 (spanA w), .int .i64 (spanB w)] else .tup [.int .i64 (-1), .int .i64 (-1)] := by
 (refine PFun.of hT Tryz.func128 rfl fun B hD => ?_; refine pw_norm rfl ?_)
 have hp := parts_pos 45 w
 have hp2 := parts_small 45 w
 (repeat' (first | (refine zDr [[0,1,2,4,5,6,7,8,9],[3,10],[11,12]] ?_; refine zDn ?_) | refine zS ?_ | refine zD ?_ | refine po_both ?_ ?_ | refine pwt_both ?_ ?_ | refine pwt_fork ?_ | refine pwt_lin ?_ | (refine po_test rfl rfl rfl rfl zB ?_ ?_ <;> intro hb <;> first | exact zX | refine zDn ?_) | refine zq5 ?_ | refine zq6 ?_ | (refine zT ?_ ?_ <;> intro h <;> first | exact zX | refine zNq ?_)))
 all_goals (refine ret2 _ rfl ?_ rfl; have hq := rspan_eq w; unfold rspan at hq)
 ·rw [if_pos (by omega)] at hq
  split <;> rename_i h1
  ·rw [if_pos h1] at hq; simp only [Prod.mk.injEq] at hq; rw [← hq.1, ← hq.2]
  ·rfl
 ·rename_i h1
  rw [if_neg (by omega), if_pos (by omega)] at hq
  split <;> rename_i h2
  ·rw [if_pos h2] at hq; simp only [Prod.mk.injEq] at hq; rw [← hq.1, ← hq.2]
  ·rfl
 ·rename_i h1
  rw [if_neg (by omega), if_neg (by omega)] at hq
  split <;> rename_i h2
  ·rw [if_pos h2] at hq; simp only [Prod.mk.injEq] at hq; rw [← hq.1, ← hq.2]
  ·rw [if_neg h2] at hq; simp only [Prod.mk.injEq] at hq; rw [hq.1, hq.2]
instance (w : Str) : ConF Tryz.prog Gl 128 [.str w] (w.length < 4294967281) (if spanOk w = true then .tup [.int .i64 (spanA w), .int .i64 (spanB w)] else .tup [.int .i64 (-1), .int .i64 (-1)]) := ⟨e128, fun h => c_rspan w h⟩
theorem c_rtimes (w : Str) (hs : w.length < 4294967281) : PFun Tryz.prog Gl 129 [.str w] fun r => r = if timeOk w = true then .tup [.int .i64 (timeA w), .int .i64 (timeB w)] else .tup [.int .i64 (-1), .int .i64 (-1)] := by
 (refine PFun.of hT Tryz.func129 rfl fun B hD => ?_; refine pw_norm rfl ?_)
 have hp := parts_pos 45 w
 (repeat' (first | (refine zDr [[0,1,2,4,5,6],[3,7],[8,9]] ?_; refine zDn ?_) | refine zS ?_ | refine zD ?_ | refine po_both ?_ ?_ | refine pwt_both ?_ ?_ | refine pwt_fork ?_ | refine pwt_lin ?_ | (refine po_test rfl rfl rfl rfl zB ?_ ?_ <;> intro hb <;> first | exact zX | refine zDn ?_) | refine zq5 ?_ | refine zq6 ?_ | (refine zT ?_ ?_ <;> intro h <;> first | exact zX | refine zNq ?_)))
 all_goals (refine ret2 _ rfl ?_ rfl; have hq := rtimes_eq w; unfold rtimes at hq)
 ·rw [if_pos (by omega)] at hq
  split <;> rename_i h1
  ·rw [if_pos h1] at hq; simp only [Prod.mk.injEq] at hq; rw [← hq.1, ← hq.2]
  ·rfl
 ·rename_i h1
  rw [if_neg (by omega), if_pos (by omega)] at hq
  split <;> rename_i h2
  ·rw [if_pos h2] at hq; simp only [Prod.mk.injEq] at hq; rw [← hq.1, ← hq.2]
  ·rfl
 ·rename_i h1
  rw [if_neg (by omega), if_neg (by omega)] at hq
  split <;> rename_i h2
  ·rw [if_pos h2] at hq; simp only [Prod.mk.injEq] at hq; rw [← hq.1, ← hq.2]
  ·rw [if_neg h2] at hq; simp only [Prod.mk.injEq] at hq; rw [hq.1, hq.2]
theorem eB (n : Int) (k : Nat) (h : n = k) (hk : k < 256) : PV.int .u8 n = eByte (UInt8.ofNat k) := by
 subst h
 unfold eByte
 rw [UInt8.toNat_ofNat']
 congr 2
 omega
theorem c_twoS (n : Int) (h0 : 0 ≤ n) (h1 : n < 100) : PFun Tryz.prog Gl 185 [.int .i64 n] fun r => r = .str (twoS n) := by
 (refine PFun.of hT Tryz.func185 rfl fun B hD => ?_; refine pw_norm rfl ?_)
 (repeat' (first | refine zS ?_ | (refine zT ?_ ?_ <;> intro h <;> first | exact zX | refine zNq ?_)))
 rw [eB (48 + n / 10) (48 + n.toNat / 10) (by omega) (by omega), eB (48 + n % 10) (48 + n.toNat % 10) (by omega) (by omega)]
 (refine pl_op rfl (op_of (v_bstr (bs := twoS n) hT rfl rfl rfl rfl rfl) ?_); (refine zNp ?_))
 (repeat' (first | refine zS ?_ | (refine zT ?_ ?_ <;> intro h <;> first | exact zX | refine zNq ?_)))
 exact ret1 _ rfl rfl rfl
instance (n : Int) : ConF Tryz.prog Gl 185 [.int .i64 n] (0 ≤ n ∧ n < 100) (.str (twoS n)) := ⟨e185, fun h => c_twoS n h.1 h.2⟩
theorem c_timeS (n : Int) (h0 : 0 ≤ n) (h1 : n < 6000) : PFun Tryz.prog Gl 151 [.int .i64 n] fun r => r = .str (timeS n) := by
 (refine PFun.of hT Tryz.func151 rfl fun B hD => ?_; refine pw_norm rfl ?_)
 have e1 : (twoS (n / 60)).length = 2 := rfl
 have e2 : (twoS (n % 60)).length = 2 := rfl
 (repeat' (first | refine zS ?_ | (refine zT ?_ ?_ <;> intro h <;> first | exact zX | refine zNq ?_)))
 exact ret1 _ rfl rfl rfl
instance (n : Int) : ConF Tryz.prog Gl 151 [.int .i64 n] (0 ≤ n ∧ n < 6000) (.str (timeS n)) := ⟨e151, fun h => c_timeS n h.1 h.2⟩
def portsT (s : Str) : TRng × Bool :=
 if (number (Lib.cut s [45]).1 0 65535).2 = true ∧ (number (if (Lib.cut s [45]).2.2 = true then (Lib.cut s [45]).2.1 else (Lib.cut s [45]).1) (number (Lib.cut s [45]).1 0 65535).1 65535).2 = true
 then (⟨(number (Lib.cut s [45]).1 0 65535).1, (number (if (Lib.cut s [45]).2.2 = true then (Lib.cut s [45]).2.1 else (Lib.cut s [45]).1) (number (Lib.cut s [45]).1 0 65535).1 65535).1⟩, true) else (rng0, false)
theorem number_range (s : Str) (l m : Int) : (number s l m).2 = true → l ≤ (number s l m).1 ∧ 0 ≤ (number s l m).1 ∧ (number s l m).1 ≤ m := by
 unfold number
 split
 ·intro h; cases h
 ·split
  ·intro h; cases h
  ·split
   ·intro h; cases h
   ·rename_i h3
    simp only [Bool.or_eq_true, decide_eq_true_eq, not_or] at h3
    intro _
    dsimp only
    omega
theorem number_no (s : Str) (l m : Int) : (number s l m).2 = false → (number s l m).1 = 0 := by
 unfold number
 split
 ·intro _; rfl
 ·split
  ·intro _; rfl
  ·split
   ·intro _; rfl
   ·intro h; cases h
theorem number_in (s : Str) (l m : Int) (h0 : 0 ≤ m) : 0 ≤ (number s l m).1 ∧ (number s l m).1 ≤ m := by
 cases h : (number s l m).2
 ·rw [number_no s l m h]; omega
 ·exact (number_range s l m h).2
def segGo : List Str → List (List Str) → List Str → List (List Str)
 | [], done, cur => done ++ [cur]
 | w :: ws, done, cur => if w = [44] then segGo ws (done ++ [cur]) [] else segGo ws done (cur ++ [w])
def segs (ws : List Str) : List (List Str) := segGo ws [] []
def itemsT (ws : List Str) : List (List Str) × Bool := if (segs ws).all (fun s => !(s == [])) = true then (segs ws, true) else ([], false)
theorem segGo_len (ws : List Str) : ∀ done cur, (segGo ws done cur).length ≤ done.length + 1 + ws.length := by
 induction ws with
 | nil => intro done cur; simp [segGo]
 | cons w ws ih =>
  intro done cur
  unfold segGo
  split
  ·have := ih (done ++ [cur]) []
   simp only [List.length_append, List.length_cons, List.length_nil] at this ⊢
   omega
  ·have := ih done (cur ++ [w])
   simp only [List.length_cons] at this ⊢
   omega
theorem segGo_each (P : Str → Prop) (ws : List Str) : ∀ done cur, (∀ s ∈ done, ∀ x ∈ s, P x) → (∀ x ∈ cur, P x) → (∀ x ∈ ws, P x) → ∀ s ∈ segGo ws done cur, ∀ x ∈ s, P x := by
 induction ws with
 | nil =>
  intro done cur h1 h2 _ s hs
  rcases List.mem_append.1 hs with hs | hs
  ·exact h1 s hs
  ·rw [List.mem_singleton.1 hs]; exact h2
 | cons w ws ih =>
  intro done cur h1 h2 h3
  unfold segGo
  split
  ·refine ih _ _ (fun s hs => ?_) (by simp) (fun x hx => h3 x (List.mem_cons_of_mem _ hx))
   rcases List.mem_append.1 hs with hs | hs
   ·exact h1 s hs
   ·rw [List.mem_singleton.1 hs]; exact h2
  ·refine ih _ _ h1 (fun x hx => ?_) (fun x hx => h3 x (List.mem_cons_of_mem _ hx))
   rcases List.mem_append.1 hx with hx | hx
   ·exact h2 x hx
   ·rw [List.mem_singleton.1 hx]; exact h3 w (List.mem_cons_self ..)
theorem segGo_width (ws : List Str) : ∀ done cur n, (∀ s ∈ done, s.length ≤ n) → cur.length + ws.length ≤ n → ∀ s ∈ segGo ws done cur, s.length ≤ n := by
 induction ws with
 | nil =>
  intro done cur n h1 h2 s hs
  rcases List.mem_append.1 hs with hs | hs
  ·exact h1 s hs
  ·rw [List.mem_singleton.1 hs]; simpa using h2
 | cons w ws ih =>
  intro done cur n h1 h2
  simp only [List.length_cons] at h2
  unfold segGo
  split
  ·refine ih _ _ n (fun s hs => ?_) (by simp; omega)
   rcases List.mem_append.1 hs with hs | hs
   ·exact h1 s hs
   ·rw [List.mem_singleton.1 hs]; omega
  ·exact ih _ _ n h1 (by simp; omega)
theorem segGo_drop {ws : List Str} {i : Nat} (h : i < ws.length) (done : List (List Str)) (cur : List Str) : segGo (ws.drop i) done cur = if ws.getD i [] = [44] then segGo (ws.drop (i + 1)) (done ++ [cur]) [] else segGo (ws.drop (i + 1)) done (cur ++ [ws.getD i []]) := by
 rw [List.drop_eq_getElem_cons h, segGo, List.getD, List.getElem?_eq_getElem h]; rfl
theorem segGo_end (ws : List Str) (done : List (List Str)) (cur : List Str) : segGo (ws.drop ws.length) done cur = done ++ [cur] := by rw [List.drop_length, segGo]
abbrev rowS (r : List Str) : PV := .sl (r.map .str)
def oCells (done : List (List Str)) (x : PV) (k : Nat) : List PV := done.map rowS ++ x :: List.replicate k .any
theorem oCells_wipe (d : Nat → Bool) (done : List (List Str)) (x : PV) (k : Nat) : (oCells done x k).map (wipe d) = oCells done (wipe d x) k := by
 unfold oCells
 rw [List.map_append, List.map_map, List.map_cons, List.map_replicate]
 rfl
theorem oCells_len (done : List (List Str)) (x : PV) (k : Nat) : (oCells done x k).length = done.length + 1 + k := by
 simp [oCells]; omega
theorem oCells_at (done : List (List Str)) (x : PV) (k : Nat) : (oCells done x k)[done.length]? = some x := by
 unfold oCells
 rw [List.getElem?_append_right (by simp)]
 simp
theorem oCells_put (done : List (List Str)) (x y : PV) (k : Nat) : splice (oCells done x k) done.length [y] = oCells done y k := by
 unfold splice oCells
 rw [List.take_left' (by simp)]
 rw [List.drop_append]
 simp
theorem oCells_refs (d : Nat → Bool) (done : List (List Str)) (x : PV) (k : Nat) (n : Nat) (h : PV.refs d (n + 1) x = true) : (oCells done x k).all (PV.refs d (n + 1)) = true := by
 unfold oCells
 rw [List.all_append, List.all_cons, h, refs_rep, List.all_map]
 rw [show done.all (PV.refs d (n + 1) ∘ rowS) = true from List.all_eq_true.2 fun _ _ => rfl]
 rfl
theorem oCells_cell (done : List (List Str)) (x : PV) (k : Nat) (h : x.cells = [x]) : ∀ c ∈ oCells done x k, c.cells = [c] := by
 intro c hc
 rcases List.mem_append.1 hc with hc | hc
 ·obtain ⟨r, _, rfl⟩ := List.mem_map.1 hc
  rfl
 ·rcases List.mem_cons.1 hc with rfl | hc
  ·exact h
  ·exact cells_rep k c hc
theorem oCells_row (done : List (List Str)) (cur : List Str) (k : Nat) : (oCells done (rowS cur) k).take (done.length + 1) = (done ++ [cur]).map rowS := by
 have e : oCells done (rowS cur) k = (done ++ [cur]).map rowS ++ List.replicate k .any := by simp [oCells]
 rw [e, List.take_left' (by simp)]
def iS (done : List (List Str)) (cur : List Str) (c1 k : Nat) : List PObj := [.box (oCells done (.msl 1 1 0 (cur.map PV.str).length c1) k), .arr 1 (cur.map .str) c1]
theorem iS_refs (done : List (List Str)) (cur : List Str) (c1 k : Nat) (d : Nat → Bool) (h : d 1 = true) : (iS done cur c1 k).all (PObj.refs d 5) = true := by
 show ((oCells done (.msl 1 1 0 (cur.map PV.str).length c1) k).all (PV.refs d 5) && (true && true)) = true
 rw [oCells_refs d done (.msl 1 1 0 (cur.map PV.str).length c1) k 4 h]; rfl
theorem c_items (ws : List Str) (hl : ws.length < 1000000) : PFun Tryz.prog Gl 95 [.sl (ws.map .str)] fun r => r = .tup [.sl ((itemsT ws).1.map rowS), .bool (itemsT ws).2] := by
 (refine PFun.of hT Tryz.func95 rfl fun B hD => ?_; refine pw_norm rfl ?_)
 (refine zGom ?_)
 (refine pl_op rfl (op_litm hT rfl rfl rfl rfl rfl (by decide) rfl rfl rfl rfl ?_); (refine zNp ?_))
 (refine zGo ?_)
 refine pw_arrBox 0 rfl rfl (by decide) (by intro c hc; rw [List.mem_singleton.1 hc]; rfl) ?_
 refine pw_ghost 1 ?_
 refine zNq ?_
 refine pw_for hD (fun a : Nat × List (List Str) × List Str × Nat × Nat => [(4, .msl 1 0 0 (a.2.1.length + 1) (a.2.1.length + 1 + a.2.2.2.2)), (13, .int .i64 a.1), (10, .any)]) (fun a => iS a.2.1 a.2.2.1 a.2.2.2.1 a.2.2.2.2)
  (fun a => segGo (ws.drop a.1) a.2.1 a.2.2.1 = segs ws ∧ a.1 ≤ ws.length ∧ a.2.1.length ≤ a.1 ∧ a.2.2.1.length ≤ a.1 ∧ a.2.1.length + 1 + a.2.2.2.2 ≤ maxLen) (fun a => ws.length - a.1) (0, [], [], 0, 0) ⟨rfl, Nat.zero_le _, Nat.le_refl _, Nat.le_refl _, by decide⟩ 2 rfl (fun _ => rfl)
  ⟨.inr (.inr ⟨_, _, rfl, rfl, .inr (.inr (.inr (.inl ⟨rfl, _, _, rfl⟩))), trivial⟩), .inl rfl, trivial⟩ (fun _ => rfl) (fun a => both rfl (iS_refs _ _ _ _ _ rfl)) zLe ?_
 rintro ⟨i, done, cur, c1, k⟩ ⟨hr, hi, hd, hc, hm⟩
 dsimp only at hr hi hd hc hm ⊢
 unfold iS
 (repeat' (first | refine zS ?_ | (refine zT ?_ ?_ <;> intro h <;> first | exact zX | refine zNq ?_)))
 ·rename_i h0
  have hil : i < ws.length := by simpa using h0
  rw [segGo_drop hil, if_neg h] at hr
  (refine pl_op rfl (op_of (v_indexB done.length hT rfl rfl rfl rfl (by omega) (by omega) (by omega) (by omega)) ?_); (refine zNp ?_))
  (refine pl_op rfl (op_loadA (x := .msl 1 1 0 (cur.map PV.str).length c1) hT rfl rfl rfl rfl rfl rfl (oCells_at _ _ _) ?_); (refine zNp ?_))
  (repeat' (first | refine zS ?_ | (refine zT ?_ ?_ <;> intro h <;> first | exact zX | refine zNq ?_)))
  (refine pl_append (b := 16) hT hD rfl rfl rfl rfl rfl rfl rfl rfl (.inl (Nat.zero_lt_succ _)) rfl rfl (by simp; omega) (fun c2 _ hcap => ?_); (refine zNp ?_))
  refine pl_st (st' := [.box (oCells done .any k), .arr 1 (cur.map PV.str ++ [PV.str (ws.getD i [])]) c2]) (congrArg (fun x => [PObj.box x, .arr 1 (cur.map PV.str ++ [PV.str (ws.getD i [])]) c2]) (oCells_wipe _ _ _ _)) ?_
  refine pl_normV rfl ?_
  (refine pl_op rfl (op_of (v_indexB done.length hT rfl rfl rfl rfl (by omega) (by omega) (by omega) (by omega)) ?_); (refine zNp ?_))
  (refine pl_op rfl (op_storeA hT rfl rfl rfl rfl rfl rfl rfl rfl (by show done.length + 1 ≤ _; rw [oCells_len]; omega) (oCells_put _ _ _ _) ?_); refine zNp ?_)
  (repeat' (first | refine zS ?_ | (refine zT ?_ ?_ <;> intro h <;> first | exact zX | refine zNq ?_)))
  refine ⟨(i + 1, done, cur ++ [ws.getD i []], c2, k), ⟨hr, hil, by dsimp only; omega, by simp; omega, hm⟩, by dsimp only; omega, zLe, ?_⟩
  dsimp only
  simp only [List.map_append, List.length_append, List.map_cons, List.map_nil]
  (exact zLes)
 ·rename_i h0
  have hil : i < ws.length := by simpa using h0
  have h : ws.getD i [] = [44] := by simpa using h
  rw [segGo_drop hil, if_pos h] at hr
  refine pl_frzB 1 0 (cs1 := done.map rowS) (cs2 := List.replicate k .any) rfl rfl rfl (by decide) ?_
  refine zNp ?_
  refine pl_boxArr 0 (cs := oCells done (rowS cur) k) rfl (oCells_cell _ _ _ rfl) (oCells_refs _ _ _ _ 4 rfl) (by rw [oCells_len]; exact hm) ?_
  refine zNp ?_
  refine pl_shrink 0 (done.length + 1) rfl ?_
  refine zNp ?_
  rw [oCells_row, oCells_len]
  refine pl_append (b := 24) hT hD rfl rfl rfl rfl rfl (by simp) rfl rfl (.inl (Nat.zero_lt_succ _)) rfl rfl (by simp; omega) (fun c2 _ hcap => ?_)
  refine pl_normV rfl ?_
  refine zNp ?_
  refine pl_cap 0 rfl fun hc1 hc2 => ?_
  simp only [List.length_append, List.length_map, List.length_cons, List.length_nil] at hc1 ⊢
  obtain ⟨k', rfl⟩ : ∃ k', c2 = (done.length + 1) + 1 + k' := ⟨c2 - (done.length + 2), by omega⟩
  refine pl_inv (st' := [.box (oCells (done ++ [cur]) .nilsl k'), .arr 1 [] 0]) (fun A w β hv => ?_) ?_
  ·have h1 := hv.fill (i := 0) rfl hcap
   have h2 := h1.arrBox (i := 0) (cs := oCells (done ++ [cur]) .nilsl k') (cap := (done.length + 1) + 1 + k') (by simp [oCells]) (by simp [oCells_len]) hcap (oCells_cell _ _ _ rfl)
   exact h2.revive (i := 1) 1 rfl
  (repeat' (first | refine zS ?_ | (refine zT ?_ ?_ <;> intro h <;> first | exact zX | refine zNq ?_)))
  refine ⟨(i + 1, done ++ [cur], [], 0, k'), ⟨hr, hil, by simp; omega, by simp, by simp; omega⟩, by dsimp only; omega, ?_, ?_⟩
  ·simp only [List.length_append, List.length_cons, List.length_nil]
   (exact zLe)
  ·exact ⟨.inr (.inr ⟨_, _, rfl, rfl, LeBy.app (Le.refl _) ⟨.inr (.inr (.inr (.inl ⟨rfl, _, _, rfl⟩))), Le.refl _⟩⟩), .inl rfl, trivial⟩
 have hie : i = ws.length := by
  have : ¬ i < ws.length := by simpa using h
  omega
 subst hie
 rw [segGo_end] at hr
 have hsl : (segs ws).length = done.length + 1 := by rw [← hr]; simp
 refine pw_frzB 1 0 (cs1 := done.map rowS) (cs2 := List.replicate k .any) rfl rfl rfl (by decide) ?_
 refine zNq ?_
 refine pw_boxArr 0 (cs := oCells done (rowS cur) k) rfl (oCells_cell _ _ _ rfl) (oCells_refs _ _ _ _ 4 rfl) (by rw [oCells_len]; exact hm) ?_
 refine zNq ?_
 refine pw_shrink 0 (done.length + 1) rfl ?_
 refine zNq ?_
 rw [oCells_row, oCells_len, hr]
 refine pw_frz2 0 4 36 rfl rfl rfl (by simp [hsl]) ?_
 refine pw_normV rfl ?_
 refine zNq ?_
 unfold itemsT
 generalize segs ws = L at hsl ⊢
 refine pw_for hD (fun i : Nat => [(38, .int .i64 i)]) (fun _ => []) (fun i => i ≤ L.length ∧ ∀ (j : Nat) d, j < i → L[j]? = some d → ¬ d = []) (fun i => L.length - i) 0 ⟨Nat.zero_le _, by intro j d h; omega⟩ 0 rfl (fun _ => rfl) zLes (fun _ => rfl) (fun _ => rfl) zLe ?_
 rintro i ⟨hi, hno⟩
 have hlD : i < L.length → L[i]? = some (L.getD i default) := fun h => by rw [List.getD, List.getElem?_eq_getElem h]; rfl
 (repeat' (first | refine zS ?_ | (refine zT ?_ ?_ <;> intro h <;> first | exact zX | refine zNq ?_)))
 ·have h0 : L.getD i default = [] := List.length_eq_zero_iff.1 (by omega)
  have hall : L.all (fun s => !(s == [])) = false := List.all_eq_false.2 ⟨_, List.mem_of_getElem? (hlD (by omega)), by rw [h0]; decide⟩
  rw [hall]
  exact ret0 _ (.tup [.sl [], .bool false]) rfl rfl (by (refine .inr (.inr (.inr (.inr (.inr ⟨_, _, rfl, rfl, ?_⟩)))); (repeat (first | exact True.intro | refine ⟨.inr (.inl rfl), ?_⟩ | refine ⟨.inr (.inr (.inl ⟨rfl, rfl⟩)), ?_⟩ | refine ⟨.inr (.inr (.inr (.inl ⟨_, _, _, _, _, _, rfl, rfl, rfl, rfl, rfl⟩))), ?_⟩ | refine ⟨.inr (.inr (.inr (.inr (.inl ⟨_, _, rfl, rfl, ?_⟩)))), ?_⟩)))) rfl
 ·refine ⟨i + 1, ⟨by omega, fun j d hj hd => ?_⟩, by omega, zLe, zLes⟩
  rcases Nat.lt_succ_iff_lt_or_eq.1 hj with hj | rfl
  ·exact hno j d hj hd
  ·rw [hlD (by omega)] at hd
   cases hd
   intro e
   rw [e] at h
   exact h rfl
 ·have hall : L.all (fun s => !(s == [])) = true := List.all_eq_true.2 fun x hx => by
   obtain ⟨j, hj⟩ := List.mem_iff_getElem?.1 hx
   have := hno j x (by have := (List.getElem?_eq_some_iff.1 hj).1; omega) hj
   simpa using this
  rw [hall]
  exact ret2 _ rfl rfl rfl
instance (ws : List Str) : ConF Tryz.prog Gl 95 [.sl (ws.map .str)] (ws.length < 1000000) (.tup [.sl ((itemsT ws).1.map rowS), .bool (itemsT ws).2]) := ⟨e95, fun h => c_items ws h⟩
theorem c_idxDef {f : FuncId} (hf : Enters Tryz.prog f) {cs : List PV} (hcs : cs.all (PV.refs (fun _ => false) 5) = true) {xs : List TDef} (hl : Small xs) {p : TDef → Bool} (hp : ∀ x ∈ xs, PCalls Tryz.prog Gl f [eDef x, .ptr 0 0] [.box cs] fun r s => r = .bool (p x) ∧ s = [.box cs]) :
  PCalls Tryz.prog Gl 139 [.sl (xs.map eDef), .fn f [.ptr 0 0]] [.box cs] fun r s => r = .int .i64 (firstAt p xs) ∧ s = [.box cs] := by
 refine PCalls.of hT Tryz.func139 rfl 1 (Nat.le_refl _) fun B hD => ?_
 refine pw_normE rfl ?_
 (refine zGo ?_)
 refine pw_for hD (fun i : Nat => [(8, .int .i64 i)]) (fun _ => [.box cs]) (fun i => i ≤ xs.length ∧ ∀ (j : Nat) d, j < i → xs[j]? = some d → p d = false) (fun i => xs.length - i) 0 ⟨by omega, by intro j d h; omega⟩ 1 rfl (fun _ => rfl) (StLe.refl _) (fun _ => rfl) (fun _ => both rfl (box1 hcs _)) zLe ?_
 rintro i ⟨hi, hno⟩
 unfold Small at hl
 (refine zGo ?_)
 refine pw_cond rfl (fun h => ?_) (fun h => ?_)
 ·simp only [decide_eq_true_eq, List.length_map] at h
  have hlt : i < xs.length := by omega
  (refine zGo ?_)
  (refine pl_op rfl (op_of (v_index (p := eDef xs[i]) hT rfl rfl rfl rfl (by omega) (by simp [hlt]) rfl) ?_); refine pl_normE rfl ?_)
  (refine zGo ?_)
  refine pl_op rfl (op_pred (v := eDef xs[i]) hcs (hp xs[i] (List.getElem_mem hlt)) rfl rfl rfl rfl hf rfl ?_); refine pl_normE rfl ?_
  (refine zGo ?_)
  refine pw_cond rfl (fun h2 => ?_) (fun h2 => ?_)
  ·(refine zGo ?_)
   exact ⟨_, _, _, rfl, ⟨by rw [firstAt_hit hlt h2 hno]; rfl, rfl⟩, .inr (.inl rfl), ⟨.inr (.inl rfl), trivial⟩, rfl, box1 hcs _⟩
  ·(refine zGo ?_)
   refine ⟨i + 1, ⟨by omega, fun j d hj hd => ?_⟩, by omega, zLe, StLe.refl _⟩
   rcases Nat.lt_succ_iff_lt_or_eq.1 hj with hj | rfl
   ·exact hno j d hj hd
   ·rw [List.getElem?_eq_getElem hlt] at hd; cases hd; exact h2
 ·simp only [decide_eq_false_iff_not, List.length_map] at h
  (refine zGo ?_)
  exact ⟨_, _, _, rfl, ⟨by rw [firstAt_miss fun j x hj => hno j x (by have := (List.getElem?_eq_some_iff.1 hj).1; omega) hj]; rfl, rfl⟩, .inr (.inl rfl), ⟨.inr (.inl rfl), trivial⟩, rfl, box1 hcs _⟩
theorem c_find1 (name : Str) (d : TDef) : PCalls Tryz.prog Gl 140 [eDef d, .ptr 0 0] [.box [.str name]] fun r st => r = .bool (d.name == name) ∧ st = [.box [.str name]] := by
 refine PCalls.of hT Tryz.func140 rfl 1 (Nat.le_refl _) fun B hD => ?_
 refine pw_norm rfl ?_
 (refine zGo ?_)
 exact ⟨_, _, _, rfl, ⟨rfl, rfl⟩, .inr (.inl rfl), ⟨.inr (.inl rfl), trivial⟩, rfl, rfl⟩
def findx (l : List TDef) (name : Str) : Int := firstAt (fun d => d.name == name) l
theorem c_find (l : List TDef) (name : Str) (hl : Small l) : PFun Tryz.prog Gl 97 [.sl (l.map eDef), .str name] fun r => r = .int .i64 (findx l name) := by
 refine PFun.of hT Tryz.func97 rfl fun B hD => ?_
 refine pw_norm rfl ?_
 (refine zGo ?_)
 (refine pl_op rfl (zCl [0] e139 (c_idxDef e140 (by rfl) hl fun x _ => c_find1 name x) (fun r s hq => ?_)); obtain ⟨rfl, rfl⟩ := hq; refine ⟨rfl, rfl, ?_⟩; (refine zNp ?_))
 (refine zGo ?_)
 refine ret1 _ rfl rfl rfl
instance (l : List TDef) (name : Str) : ConF Tryz.prog Gl 97 [.sl (l.map eDef), .str name] (Small l) (.int .i64 (findx l name)) := ⟨e97, fun h => c_find l name h⟩
theorem c_idxWin {f : FuncId} (hf : Enters Tryz.prog f) {cs : List PV} (hcs : cs.all (PV.refs (fun _ => false) 5) = true) {xs : List TWin} (hl : Small xs) {p : TWin → Bool} (hp : ∀ x ∈ xs, PCalls Tryz.prog Gl f [eWin x, .ptr 0 0] [.box cs] fun r s => r = .bool (p x) ∧ s = [.box cs]) :
  PCalls Tryz.prog Gl 118 [.sl (xs.map eWin), .fn f [.ptr 0 0]] [.box cs] fun r s => r = .int .i64 (firstAt p xs) ∧ s = [.box cs] := by
 refine PCalls.of hT Tryz.func118 rfl 1 (Nat.le_refl _) fun B hD => ?_
 refine pw_normE rfl ?_
 (refine zGo ?_)
 refine pw_for hD (fun i : Nat => [(8, .int .i64 i)]) (fun _ => [.box cs]) (fun i => i ≤ xs.length ∧ ∀ (j : Nat) d, j < i → xs[j]? = some d → p d = false) (fun i => xs.length - i) 0 ⟨by omega, by intro j d h; omega⟩ 1 rfl (fun _ => rfl) (StLe.refl _) (fun _ => rfl) (fun _ => both rfl (box1 hcs _)) zLe ?_
 rintro i ⟨hi, hno⟩
 unfold Small at hl
 (refine zGo ?_)
 refine pw_cond rfl (fun h => ?_) (fun h => ?_)
 ·simp only [decide_eq_true_eq, List.length_map] at h
  have hlt : i < xs.length := by omega
  (refine zGo ?_)
  (refine pl_op rfl (op_of (v_index (p := eWin xs[i]) hT rfl rfl rfl rfl (by omega) (by simp [hlt]) rfl) ?_); refine pl_normE rfl ?_)
  (refine zGo ?_)
  refine pl_op rfl (op_pred (v := eWin xs[i]) hcs (hp xs[i] (List.getElem_mem hlt)) rfl rfl rfl rfl hf rfl ?_); refine pl_normE rfl ?_
  (refine zGo ?_)
  refine pw_cond rfl (fun h2 => ?_) (fun h2 => ?_)
  ·(refine zGo ?_)
   exact ⟨_, _, _, rfl, ⟨by rw [firstAt_hit hlt h2 hno]; rfl, rfl⟩, .inr (.inl rfl), ⟨.inr (.inl rfl), trivial⟩, rfl, box1 hcs _⟩
  ·(refine zGo ?_)
   refine ⟨i + 1, ⟨by omega, fun j d hj hd => ?_⟩, by omega, zLe, StLe.refl _⟩
   rcases Nat.lt_succ_iff_lt_or_eq.1 hj with hj | rfl
   ·exact hno j d hj hd
   ·rw [List.getElem?_eq_getElem hlt] at hd; cases hd; exact h2
 ·simp only [decide_eq_false_iff_not, List.length_map] at h
  (refine zGo ?_)
  exact ⟨_, _, _, rfl, ⟨by rw [firstAt_miss fun j x hj => hno j x (by have := (List.getElem?_eq_some_iff.1 hj).1; omega) hj]; rfl, rfl⟩, .inr (.inl rfl), ⟨.inr (.inl rfl), trivial⟩, rfl, box1 hcs _⟩
theorem c_window1 (name : Str) (d : TWin) : PCalls Tryz.prog Gl 119 [eWin d, .ptr 0 0] [.box [.str name]] fun r st => r = .bool (d.name == name) ∧ st = [.box [.str name]] := by
 refine PCalls.of hT Tryz.func119 rfl 1 (Nat.le_refl _) fun B hD => ?_
 refine pw_norm rfl ?_
 (refine zGo ?_)
 exact ⟨_, _, _, rfl, ⟨rfl, rfl⟩, .inr (.inl rfl), ⟨.inr (.inl rfl), trivial⟩, rfl, rfl⟩
def windowx (l : List TWin) (name : Str) : Int := firstAt (fun d => d.name == name) l
theorem c_window (l : List TWin) (name : Str) (hl : Small l) : PFun Tryz.prog Gl 69 [.sl (l.map eWin), .str name] fun r => r = .int .i64 (windowx l name) := by
 refine PFun.of hT Tryz.func69 rfl fun B hD => ?_
 refine pw_norm rfl ?_
 (refine zGo ?_)
 (refine pl_op rfl (zCl [0] e118 (c_idxWin e119 (by rfl) hl fun x _ => c_window1 name x) (fun r s hq => ?_)); obtain ⟨rfl, rfl⟩ := hq; refine ⟨rfl, rfl, ?_⟩; (refine zNp ?_))
 (refine zGo ?_)
 refine ret1 _ rfl rfl rfl
instance (l : List TWin) (name : Str) : ConF Tryz.prog Gl 69 [.sl (l.map eWin), .str name] (Small l) (.int .i64 (windowx l name)) := ⟨e69, fun h => c_window l name h⟩
instance (s : Str) : ConF Tryz.prog Gl 102 [.str s] (s.length < 4294967281) (.bool (digitsB s)) := ⟨e102, fun h => c100 s h⟩
instance (s : Str) (a b : Int) : ConF Tryz.prog Gl 101 [.str s, .int .i64 a, .int .i64 b] (s.length < 4294967281 ∧ b ≤ 9223372036854775807) (.tup [.int .i64 (number s a b).1, .bool (number s a b).2]) := ⟨e101, fun h => c103 s a b (by unfold Small; omega) h.2⟩
instance (s : Str) : ConF Tryz.prog Gl 138 [.str s] (GM Gl ∧ s.length < 4294967281) (.tup [ePfx (pfxParse s).1, .bool (pfxParse s).2]) := ⟨e138, fun h => c104 h.1 s h.2⟩
instance (s : Str) : ConF Tryz.prog Gl 104 [.str s] (s.length < 4294967281) (.tup [.int .u32 (addr s).1, .bool (addr s).2]) := ⟨e104, fun h => c129' s (by unfold Small; omega)⟩
theorem portsT_n {s : Str} (h : ¬ (Lib.cut s [45]).2.2 = true) : portsT s = if (number (Lib.cut s [45]).1 0 65535).2 = true ∧ (number (Lib.cut s [45]).1 (number (Lib.cut s [45]).1 0 65535).1 65535).2 = true then (⟨(number (Lib.cut s [45]).1 0 65535).1, (number (Lib.cut s [45]).1 (number (Lib.cut s [45]).1 0 65535).1 65535).1⟩, true) else (rng0, false) := by
 unfold portsT; simp only [if_neg h]
theorem portsT_y {s : Str} (h : (Lib.cut s [45]).2.2 = true) : portsT s = if (number (Lib.cut s [45]).1 0 65535).2 = true ∧ (number (Lib.cut s [45]).2.1 (number (Lib.cut s [45]).1 0 65535).1 65535).2 = true then (⟨(number (Lib.cut s [45]).1 0 65535).1, (number (Lib.cut s [45]).2.1 (number (Lib.cut s [45]).1 0 65535).1 65535).1⟩, true) else (rng0, false) := by
 unfold portsT; simp only [if_pos h]
theorem c_ports (hG : GM Gl) (s : Str) (hs : s.length < 4294967281) : PFun Tryz.prog Gl 105 [.str s] fun r => r = .tup [eRng (portsT s).1, .bool (portsT s).2] := by
 (refine PFun.of hT Tryz.func105 rfl fun B hD => ?_; refine pw_norm rfl ?_)
 have h1 := cut_len1 s [45]
 have h2 := cut_len2 s [45]
 have n1 := number_in (Lib.cut s [45]).1 0 65535 (by omega)
 have n2 := number_in (Lib.cut s [45]).1 (number (Lib.cut s [45]).1 0 65535).1 65535 (by omega)
 have n3 := number_in (Lib.cut s [45]).2.1 (number (Lib.cut s [45]).1 0 65535).1 65535 (by omega)
 (repeat' (first | refine zS ?_ | refine zq5 ?_ | refine zq6 ?_ | (refine zT ?_ ?_ <;> intro h <;> first | exact zX | refine zNq ?_)))
 ·rename_i hf
  rw [portsT_n hf, if_neg (by rintro ⟨a, b⟩; exact h.elim (· a) (· b))]
  exact ret2 _ rfl rfl rfl
 ·rename_i hf
  rw [portsT_n hf, if_pos ⟨Decidable.not_not.1 fun a => h (.inl a), Decidable.not_not.1 fun a => h (.inr a)⟩]
  exact ret2 _ rfl rfl rfl
 ·rename_i hf
  rw [portsT_y (Decidable.not_not.1 hf), if_neg (by rintro ⟨a, b⟩; exact h.elim (· a) (· b))]
  exact ret2 _ rfl rfl rfl
 ·rename_i hf
  rw [portsT_y (Decidable.not_not.1 hf), if_pos ⟨Decidable.not_not.1 fun a => h (.inl a), Decidable.not_not.1 fun a => h (.inr a)⟩]
  exact ret2 _ rfl rfl rfl
instance (s : Str) : ConF Tryz.prog Gl 105 [.str s] (GM Gl ∧ s.length < 4294967281) (.tup [eRng (portsT s).1, .bool (portsT s).2]) := ⟨e105, fun h => c_ports h.1 s h.2⟩
def item0 : TItem := ⟨0, [], pfx0, 0, rng0⟩
def rdItem (w : List Str) (sv : Bool) : TItem × Bool × Bool :=
 if sv = true ∧ formB w [[105, 99, 109, 112]] = true then (⟨4, [], pfx0, 1, ⟨8, 8⟩⟩, true, true) else
 if ¬ (w.length : Int) = 2 then (item0, false, false) else
 if sv = true ∧ (w.getD 0 [] = [116, 99, 112] ∨ w.getD 0 [] = [117, 100, 112]) then (⟨4, [], pfx0, if w.getD 0 [] = [117, 100, 112] then 17 else 6, (portsT (w.getD 1 [])).1⟩, (portsT (w.getD 1 [])).2, (portsT (w.getD 1 [])).2) else
 if sv = true ∧ w.getD 0 [] = [112, 114, 111, 116, 111] then (⟨4, [], pfx0, (number (w.getD 1 []) 0 255).1, rng0⟩, digitsB (w.getD 1 []), (((number (w.getD 1 []) 0 255).2 && (number (w.getD 1 []) 0 255).1 != 1) && (number (w.getD 1 []) 0 255).1 != 6) && (number (w.getD 1 []) 0 255).1 != 17) else
 if (sv = true ∧ w.getD 0 [] = [115, 101, 114, 118, 105, 99, 101]) ∨ ¬ sv = true ∧ w.getD 0 [] = [103, 114, 111, 117, 112] then (⟨3, w.getD 1 [], pfx0, 0, rng0⟩, vname (w.getD 1 []), true) else
 if ¬ sv = true ∧ w.getD 0 [] = [122, 111, 110, 101] then (⟨1, w.getD 1 [], pfx0, 0, rng0⟩, vname (w.getD 1 []), true) else
 if ¬ sv = true ∧ w.getD 0 [] = [115, 117, 98, 110, 101, 116] then (⟨2, [], (pfxParse (w.getD 1 [])).1, 0, rng0⟩, (pfxParse (w.getD 1 [])).2, (pfxParse (w.getD 1 [])).2) else
 (item0, false, false)
abbrev eItemR (x : TItem × Bool × Bool) : PV := .tup [eItem x.1, .bool x.2.1, .bool x.2.2]
def pDef (l : List TDef) (w : List Str) (sv : Bool) : Int × List TDef :=
 if ((w.length : Int) < 3 ∨ ¬ vname (w.getD 1 []) = true) ∨ ¬ w.getD 2 [] = [61] then (4, l) else
 if ¬ (itemsT (w.drop 3)).2 = true then (4, l) else
 if ¬ (itemsT (w.drop 3)).1.all (fun x => (rdItem x sv).2.1) = true then (4, l) else
 if ¬ (itemsT (w.drop 3)).1.all (fun x => (rdItem x sv).2.2) = true then (2, l) else
 if 16 < (itemsT (w.drop 3)).1.length then (3, l) else
 if 0 ≤ firstAt (fun d => d.name == w.getD 1 []) l then (6, l) else
 if 32 ≤ l.length then (3, l) else (0, l ++ [⟨w.getD 1 [], (itemsT (w.drop 3)).1.map fun x => (rdItem x sv).1⟩])

end
end Go.Proofs.YtkaobkjcjodffaaGreatDoor