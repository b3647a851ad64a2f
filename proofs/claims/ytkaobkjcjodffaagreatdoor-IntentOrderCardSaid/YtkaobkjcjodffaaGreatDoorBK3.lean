/-
 Contracts of functions, walked over pure values.
-/
import Derived.Test.YtkaobkjcjodffaaGreatDoorBK19
import Derived.Test.YtkaobkjcjodffaaGreatDoorAPwBox
set_option maxHeartbeats 20000000
set_option maxRecDepth 100000
namespace Go.Proofs.YtkaobkjcjodffaaGreatDoor
open Go Go.Pw
section
variable {Gl : Glob}
attribute [local irreducible] PW PWL OpP PCalls PWO PWT bothT
theorem cut_len1 (s sep : Str) : (Lib.cut s sep).1.length ≤ s.length := (cut_len s sep).1
theorem cut_len2 (s sep : Str) : (Lib.cut s sep).2.1.length ≤ s.length := (cut_len s sep).2
theorem c_days (hG : GM Gl) (hD' : GD Gl) (w : Str) (hs : w.length < 4294967281) : PFun Tryz.prog Gl 141 [.str w] fun r => r = .tup [.int .i64 (spanA w), .int .i64 (spanB w), .bool (spanOk w)] := by
 (refine PFun.of hT Tryz.func141 rfl fun B hD => ?_; refine pw_norm rfl ?_)
 (repeat' (first | refine zS ?_ | refine zq5 ?_ | refine zq6 ?_ | (refine zT ?_ ?_ <;> intro h <;> first | exact zX | refine zNq ?_)))
 ·refine ret2 _ rfl ?_ rfl
  simp only [spanA, spanB, spanOk, h]; rfl
 ·have h : (Lib.cut w [45]).2.2 = true := by simpa using h
  refine ret2 _ rfl ?_ rfl
  simp only [spanA, spanB, spanOk, h]; rfl
instance (w : Str) : ConF Tryz.prog Gl 141 [.str w] (GM Gl ∧ GD Gl ∧ w.length < 4294967281) (.tup [.int .i64 (spanA w), .int .i64 (spanB w), .bool (spanOk w)]) := ⟨e141, fun h => c_days h.1 h.2.1 w h.2.2⟩
theorem c_times (hG : GM Gl) (w : Str) (hs : w.length < 4294967281) : PFun Tryz.prog Gl 142 [.str w] fun r => r = .tup [.int .i64 (timeA w), .int .i64 (timeB w), .bool (timeOk w)] := by
 (refine PFun.of hT Tryz.func142 rfl fun B hD => ?_; refine pw_norm rfl ?_)
 have h1 := cut_len1 w [45]
 have h2 := cut_len2 w [45]
 (repeat' (first | refine zS ?_ | refine zq5 ?_ | refine zq6 ?_ | (refine zT ?_ ?_ <;> intro h <;> first | exact zX | refine zNq ?_)))
 exact ret1 _ rfl rfl rfl
instance (w : Str) : ConF Tryz.prog Gl 142 [.str w] (GM Gl ∧ w.length < 4294967281) (.tup [.int .i64 (timeA w), .int .i64 (timeB w), .bool (timeOk w)]) := ⟨e142, fun h => c_times h.1 w h.2⟩
def twoS (n : Int) : Str := [UInt8.ofNat (48 + n.toNat / 10), UInt8.ofNat (48 + n.toNat % 10)]
def timeS (n : Int) : Str := twoS (n / 60) ++ [58] ++ twoS (n % 60)
theorem c_rclock (s : Str) : PFun Tryz.prog Gl 160 [.str s] fun r => r = .int .i64 (clock s) := by
 (refine PFun.of hT Tryz.func160 rfl fun B hD => ?_; refine pw_norm rfl ?_)
 have hl := pair2_range (s.take 2)
 have hr := pair2_range (s.drop 3)
 (repeat' (first | (refine zDr [[0,1,3,4],[2,5],[6,7]] ?_; refine zDn ?_) | refine zS ?_ | refine zD ?_ | refine po_both ?_ ?_ | refine pwt_both ?_ ?_ | refine pwt_fork ?_ | refine pwt_lin ?_ | (refine po_test rfl rfl rfl rfl zB ?_ ?_ <;> intro hb <;> first | exact zX | refine zDn ?_) | refine zq5 ?_ | refine zq6 ?_ | (refine zT ?_ ?_ <;> intro h <;> first | exact zX | refine zNq ?_)))
 all_goals (refine ret2 _ rfl ?_ rfl; rw [← rclock_eq]; refine iE ?_; unfold rclock)
 ·rw [if_pos h]
 ·rename_i h0
  rw [if_neg h0, if_neg]
  rintro ⟨h1, h2, _⟩
  rw [h1, h2] at h
  revert h; decide
 ·rename_i h0 h1
  rw [if_neg h0, if_neg]
  omega
 ·rename_i h0 h1
  rw [if_neg h0, if_pos]
  refine ⟨by omega, UInt8.toNat_inj.1 (show _ = 58 by omega), by omega, by omega, by omega, by omega⟩
instance (s : Str) : ConF Tryz.prog Gl 160 [.str s] True (.int .i64 (clock s)) := ⟨e160, fun _ => c_rclock s⟩
theorem parts_pos (c : UInt8) (s : Str) : 0 < (parts c s).length := by rw [parts_len]; omega
theorem parts_small (c : UInt8) (s : Str) : (parts c s).length ≤ s.length + 1 := by rw [parts_len]; have := List.count_le_length (a := c) (l := s); omega
theorem c_rspan (w : Str) (hs : w.length < 4294967281) : PFun Tryz.prog Gl 128 [.str w] fun r => r = if spanOk w = true then .tup [.int .i64 (spanA w), .int .i64 (spanB w)] else .tup [.int .i64 (-1), .int .i64 (-1)] := by
 (refine PFun.of hT Tryz.func128 rfl fun B hD => ?_; refine pw_norm rfl ?_)
 have hp := parts_pos 45 w
 have hp2 := parts_small 45 w
 (repeat' (first | (refine zDr [[0,1,2,4,5,6,7,8,9],[3,10],[11,12]] ?_; refine zDn ?_) | refine zS ?_ | refine zD ?_ | refine po_both ?_ ?_ | refine pwt_both ?_ ?_ | refine pwt_fork ?_ | refine pwt_lin ?_ | (refine po_test rfl rfl rfl rfl zB ?_ ?_ <;> intro hb <;> first | exact zX | refine zDn ?_) | refine zq5 ?_ | refine zq6 ?_ | (refine zT ?_ ?_ <;> intro h <;> first | exact zX | refine zNq ?_)))
 all_goals (refine ret2 _ rfl ?_ rfl; have hq := rspan_eq w; unfold rspan at hq)
 ·rw [if_pos (by omega)] at hq
  split <;> rename_i h1
  ·rw [if_pos h1] at hq; simp only [Prod.mk.injEq] at hq; rw [← hq.1, ← hq.2]
  ·rfl
 ·rename_i h1
  rw [if_neg (by omega), if_pos (by omega)] at hq
  split <;> rename_i h2
  ·rw [if_pos h2] at hq; simp only [Prod.mk.injEq] at hq; rw [← hq.1, ← hq.2]
  ·rfl
 ·rename_i h1
  rw [if_neg (by omega), if_neg (by omega)] at hq
  split <;> rename_i h2
  ·rw [if_pos h2] at hq; simp only [Prod.mk.injEq] at hq; rw [← hq.1, ← hq.2]
  ·rw [if_neg h2] at hq; simp only [Prod.mk.injEq] at hq; rw [hq.1, hq.2]
instance (w : Str) : ConF Tryz.prog Gl 128 [.str w] (w.length < 4294967281) (if spanOk w = true then .tup [.int .i64 (spanA w), .int .i64 (spanB w)] else .tup [.int .i64 (-1), .int .i64 (-1)]) := ⟨e128, fun h => c_rspan w h⟩
theorem c_rtimes (w : Str) (hs : w.length < 4294967281) : PFun Tryz.prog Gl 129 [.str w] fun r => r = if timeOk w = true then .tup [.int .i64 (timeA w), .int .i64 (timeB w)] else .tup [.int .i64 (-1), .int .i64 (-1)] := by
 (refine PFun.of hT Tryz.func129 rfl fun B hD => ?_; refine pw_norm rfl ?_)
 have hp := parts_pos 45 w
 (repeat' (first | (refine zDr [[0,1,2,4,5,6],[3,7],[8,9]] ?_; refine zDn ?_) | refine zS ?_ | refine zD ?_ | refine po_both ?_ ?_ | refine pwt_both ?_ ?_ | refine pwt_fork ?_ | refine pwt_lin ?_ | (refine po_test rfl rfl rfl rfl zB ?_ ?_ <;> intro hb <;> first | exact zX | refine zDn ?_) | refine zq5 ?_ | refine zq6 ?_ | (refine zT ?_ ?_ <;> intro h <;> first | exact zX | refine zNq ?_)))
 all_goals (refine ret2 _ rfl ?_ rfl; have hq := rtimes_eq w; unfold rtimes at hq)
 ·rw [if_pos (by omega)] at hq
  split <;> rename_i h1
  ·rw [if_pos h1] at hq; simp only [Prod.mk.injEq] at hq; rw [← hq.1, ← hq.2]
  ·rfl
 ·rename_i h1
  rw [if_neg (by omega), if_pos (by omega)] at hq
  split <;> rename_i h2
  ·rw [if_pos h2] at hq; simp only [Prod.mk.injEq] at hq; rw [← hq.1, ← hq.2]
  ·rfl
 ·rename_i h1
  rw [if_neg (by omega), if_neg (by omega)] at hq
  split <;> rename_i h2
  ·rw [if_pos h2] at hq; simp only [Prod.mk.injEq] at hq; rw [← hq.1, ← hq.2]
  ·rw [if_neg h2] at hq; simp only [Prod.mk.injEq] at hq; rw [hq.1, hq.2]
theorem eB (n : Int) (k : Nat) (h : n = k) (hk : k < 256) : PV.int .u8 n = eByte (UInt8.ofNat k) := by
 subst h
 unfold eByte
 rw [UInt8.toNat_ofNat']
 congr 2
 omega
theorem c_twoS (n : Int) (h0 : 0 ≤ n) (h1 : n < 100) : PFun Tryz.prog Gl 185 [.int .i64 n] fun r => r = .str (twoS n) := by
 (refine PFun.of hT Tryz.func185 rfl fun B hD => ?_; refine pw_norm rfl ?_)
 (repeat' (first | refine zS ?_ | (refine zT ?_ ?_ <;> intro h <;> first | exact zX | refine zNq ?_)))
 rw [eB (48 + n / 10) (48 + n.toNat / 10) (by omega) (by omega), eB (48 + n % 10) (48 + n.toNat % 10) (by omega) (by omega)]
 (refine pl_op rfl (op_of (v_bstr (bs := twoS n) hT rfl rfl rfl rfl rfl) ?_); (refine zNp ?_))
 (repeat' (first | refine zS ?_ | (refine zT ?_ ?_ <;> intro h <;> first | exact zX | refine zNq ?_)))
 exact ret1 _ rfl rfl rfl
instance (n : Int) : ConF Tryz.prog Gl 185 [.int .i64 n] (0 ≤ n ∧ n < 100) (.str (twoS n)) := ⟨e185, fun h => c_twoS n h.1 h.2⟩
theorem c_timeS (n : Int) (h0 : 0 ≤ n) (h1 : n < 6000) : PFun Tryz.prog Gl 151 [.int .i64 n] fun r => r = .str (timeS n) := by
 (refine PFun.of hT Tryz.func151 rfl fun B hD => ?_; refine pw_norm rfl ?_)
 have e1 : (twoS (n / 60)).length = 2 := rfl
 have e2 : (twoS (n % 60)).length = 2 := rfl
 (repeat' (first | refine zS ?_ | (refine zT ?_ ?_ <;> intro h <;> first | exact zX | refine zNq ?_)))
 exact ret1 _ rfl rfl rfl
instance (n : Int) : ConF Tryz.prog Gl 151 [.int .i64 n] (0 ≤ n ∧ n < 6000) (.str (timeS n)) := ⟨e151, fun h => c_timeS n h.1 h.2⟩
theorem c_pad (n : Int) (h0 : 0 ≤ n) (h1 : n < 100) : PFun Tryz.prog Gl 127 [.int .i64 n] fun r => r = .str (twoS n) := by
 (refine PFun.of hT Tryz.func127 rfl fun B hD => ?_; refine pw_norm rfl ?_)
 have hd : (dec n.toNat).length ≤ 2 := by
  by_cases h : n.toNat < 10
  ·rw [dec_lt h]; simp
  ·rw [dec_ge h, dec_lt (by omega)]; simp
 (repeat' (first | refine zS ?_ | (refine zT ?_ ?_ <;> intro h <;> first | exact zX | refine zNq ?_)))
 all_goals (refine ret2 _ rfl ?_ rfl; unfold twoS)
 ·rw [dec_lt (by omega), show n.toNat / 10 = 0 by omega, show n.toNat % 10 = n.toNat by omega]; rfl
 ·rw [dec_ge (by omega), dec_lt (by omega)]; rfl
instance (n : Int) : ConF Tryz.prog Gl 127 [.int .i64 n] (0 ≤ n ∧ n < 100) (.str (twoS n)) := ⟨e127, fun h => c_pad n h.1 h.2⟩
theorem c_rtext (n : Int) (h0 : 0 ≤ n) (h1 : n < 6000) : PFun Tryz.prog Gl 85 [.int .i64 n] fun r => r = .str (timeS n) := by
 (refine PFun.of hT Tryz.func85 rfl fun B hD => ?_; refine pw_norm rfl ?_)
 have e1 : (twoS (n / 60)).length = 2 := rfl
 have e2 : (twoS (n % 60)).length = 2 := rfl
 (repeat' (first | refine zS ?_ | (refine zT ?_ ?_ <;> intro h <;> first | exact zX | refine zNq ?_)))
 exact ret1 _ rfl rfl rfl
instance (n : Int) : ConF Tryz.prog Gl 85 [.int .i64 n] (0 ≤ n ∧ n < 6000) (.str (timeS n)) := ⟨e85, fun h => c_rtext n h.1 h.2⟩
end
section
def portsT (s : Str) : TRng × Bool :=
 if (number (Lib.cut s [45]).1 0 65535).2 = true ∧ (number (if (Lib.cut s [45]).2.2 = true then (Lib.cut s [45]).2.1 else (Lib.cut s [45]).1) (number (Lib.cut s [45]).1 0 65535).1 65535).2 = true
 then (⟨(number (Lib.cut s [45]).1 0 65535).1, (number (if (Lib.cut s [45]).2.2 = true then (Lib.cut s [45]).2.1 else (Lib.cut s [45]).1) (number (Lib.cut s [45]).1 0 65535).1 65535).1⟩, true) else (rng0, false)
def rports (s : Str) : TRng × Bool :=
 if 2 < (parts 45 s).length then (rng0, false) else
 if (number ((parts 45 s).getD 0 []) 0 65535).2 = false ∨ (number ((parts 45 s).getD ((parts 45 s).length - 1) []) 0 65535).2 = false ∨ (number ((parts 45 s).getD ((parts 45 s).length - 1) []) 0 65535).1 < (number ((parts 45 s).getD 0 []) 0 65535).1 then (rng0, false)
 else (⟨(number ((parts 45 s).getD 0 []) 0 65535).1, (number ((parts 45 s).getD ((parts 45 s).length - 1) []) 0 65535).1⟩, true)
theorem number_range (s : Str) (l m : Int) : (number s l m).2 = true → l ≤ (number s l m).1 ∧ 0 ≤ (number s l m).1 ∧ (number s l m).1 ≤ m := by
 unfold number
 split
 ·intro h; cases h
 ·split
  ·intro h; cases h
  ·split
   ·intro h; cases h
   ·rename_i h3
    simp only [Bool.or_eq_true, decide_eq_true_eq, not_or] at h3
    intro _
    dsimp only
    omega
theorem number_no (s : Str) (l m : Int) : (number s l m).2 = false → (number s l m).1 = 0 := by
 unfold number
 split
 ·intro _; rfl
 ·split
  ·intro _; rfl
  ·split
   ·intro _; rfl
   ·intro h; cases h
theorem number_in (s : Str) (l m : Int) (h0 : 0 ≤ m) : 0 ≤ (number s l m).1 ∧ (number s l m).1 ≤ m := by
 cases h : (number s l m).2
 ·rw [number_no s l m h]; omega
 ·exact (number_range s l m h).2
theorem number_least (s : Str) (l m : Int) (_h0 : 0 ≤ l) : number s l m = if (number s 0 m).2 = true ∧ l ≤ (number s 0 m).1 then number s 0 m else (0, false) := by
 unfold number
 by_cases h1 : nhead s m = true
 ·simp [h1]
 ·by_cases h2 : s.any dbad = true
  ·simp [h1, h2]
  ·simp only [h1, h2]
   by_cases h3 : (dval s : Int) > m
   ·simp [h3]
   ·have h5 : ¬ (dval s : Int) < 0 := by omega
    by_cases h4 : (dval s : Int) < l
    ·have : ¬ l ≤ (dval s : Int) := by omega
     simp [h3, h4, h5, this]
    ·have : l ≤ (dval s : Int) := by omega
     simp [h3, h4, this, h5]
theorem number_dash {s : Str} (h : (45 : UInt8) ∈ s) (l m : Int) : number s l m = (0, false) := by
 unfold number
 split
 ·rfl
 ·rw [if_pos (List.any_eq_true.2 ⟨45, h, by decide⟩)]
theorem rports_eq (s : Str) : rports s = portsT s := by
 unfold rports portsT
 rcases cut_cases 45 s with ⟨h1, h2, h3⟩ | ⟨a, b, h1, h2, h3, h4⟩
 ·rw [h2, h3]
  rw [if_neg (by simp)]
  simp only [List.length_cons, List.length_nil, List.getD_cons_zero, Nat.zero_add, Nat.sub_self, Bool.false_eq_true, if_false]
  rw [number_least s (number s 0 65535).1 65535 (number_in s 0 65535 (by omega)).1]
  cases h : (number s 0 65535).2
  ·simp
  ·simp [h]
 ·rw [h3, h4]
  simp only [List.length_cons, List.getD_cons_zero, if_true]
  rcases cut_cases 45 b with ⟨g1, _, g3⟩ | ⟨x, y, g1, g2, _, g4⟩
  ·rw [g3, if_neg (by simp)]
   simp only [List.length_cons, List.length_nil, Nat.zero_add, Nat.reduceAdd, Nat.add_one_sub_one, List.getD_cons_succ, List.getD_cons_zero]
   rw [number_least b (number a 0 65535).1 65535 (number_in a 0 65535 (by omega)).1]
   cases h : (number a 0 65535).2
   ·simp
   ·cases h' : (number b 0 65535).2
    ·simp
    ·by_cases hh : (number b 0 65535).1 < (number a 0 65535).1
     ·have : ¬ (number a 0 65535).1 ≤ (number b 0 65535).1 := by omega
      simp [hh, this]
     ·have : (number a 0 65535).1 ≤ (number b 0 65535).1 := by omega
      simp [hh, this, h']
  ·have hb : (45 : UInt8) ∈ b := by rw [g1]; simp
   rw [number_dash hb, if_pos (by rw [g4, List.length_cons]; have := parts_len 45 y; omega)]
   simp
def segGo : List Str → List (List Str) → List Str → List (List Str)
 | [], done, cur => done ++ [cur]
 | w :: ws, done, cur => if w = [44] then segGo ws (done ++ [cur]) [] else segGo ws done (cur ++ [w])
def segs (ws : List Str) : List (List Str) := segGo ws [] []
def itemsT (ws : List Str) : List (List Str) × Bool := if (segs ws).all (fun s => !(s == [])) = true then (segs ws, true) else ([], false)
theorem segGo_pre (ws : List Str) : ∀ done cur, ∃ t, segGo ws done cur = done ++ t ∧ t ≠ [] := by
 induction ws with
 | nil => intro done cur; exact ⟨[cur], rfl, by simp⟩
 | cons w ws ih =>
  intro done cur
  unfold segGo
  split
  ·obtain ⟨t, h, _⟩ := ih (done ++ [cur]) []
   exact ⟨cur :: t, by rw [h]; simp, by simp⟩
  ·exact ih done _
theorem segGo_len (ws : List Str) : ∀ done cur, (segGo ws done cur).length ≤ done.length + 1 + ws.length := by
 induction ws with
 | nil => intro done cur; simp [segGo]
 | cons w ws ih =>
  intro done cur
  unfold segGo
  split
  ·have := ih (done ++ [cur]) []
   simp only [List.length_append, List.length_cons, List.length_nil] at this ⊢
   omega
  ·have := ih done (cur ++ [w])
   simp only [List.length_cons] at this ⊢
   omega
theorem segGo_each (P : Str → Prop) (ws : List Str) : ∀ done cur, (∀ s ∈ done, ∀ x ∈ s, P x) → (∀ x ∈ cur, P x) → (∀ x ∈ ws, P x) → ∀ s ∈ segGo ws done cur, ∀ x ∈ s, P x := by
 induction ws with
 | nil =>
  intro done cur h1 h2 _ s hs
  rcases List.mem_append.1 hs with hs | hs
  ·exact h1 s hs
  ·rw [List.mem_singleton.1 hs]; exact h2
 | cons w ws ih =>
  intro done cur h1 h2 h3
  unfold segGo
  split
  ·refine ih _ _ (fun s hs => ?_) (by simp) (fun x hx => h3 x (List.mem_cons_of_mem _ hx))
   rcases List.mem_append.1 hs with hs | hs
   ·exact h1 s hs
   ·rw [List.mem_singleton.1 hs]; exact h2
  ·refine ih _ _ h1 (fun x hx => ?_) (fun x hx => h3 x (List.mem_cons_of_mem _ hx))
   rcases List.mem_append.1 hx with hx | hx
   ·exact h2 x hx
   ·rw [List.mem_singleton.1 hx]; exact h3 w (List.mem_cons_self ..)
theorem segGo_width (ws : List Str) : ∀ done cur n, (∀ s ∈ done, s.length ≤ n) → cur.length + ws.length ≤ n → ∀ s ∈ segGo ws done cur, s.length ≤ n := by
 induction ws with
 | nil =>
  intro done cur n h1 h2 s hs
  rcases List.mem_append.1 hs with hs | hs
  ·exact h1 s hs
  ·rw [List.mem_singleton.1 hs]; simpa using h2
 | cons w ws ih =>
  intro done cur n h1 h2
  simp only [List.length_cons] at h2
  unfold segGo
  split
  ·refine ih _ _ n (fun s hs => ?_) (by simp; omega)
   rcases List.mem_append.1 hs with hs | hs
   ·exact h1 s hs
   ·rw [List.mem_singleton.1 hs]; omega
  ·exact ih _ _ n h1 (by simp; omega)
theorem segGo_drop {ws : List Str} {i : Nat} (h : i < ws.length) (done : List (List Str)) (cur : List Str) : segGo (ws.drop i) done cur = if ws.getD i [] = [44] then segGo (ws.drop (i + 1)) (done ++ [cur]) [] else segGo (ws.drop (i + 1)) done (cur ++ [ws.getD i []]) := by
 rw [List.drop_eq_getElem_cons h, segGo, List.getD, List.getElem?_eq_getElem h]; rfl
theorem segGo_end (ws : List Str) (done : List (List Str)) (cur : List Str) : segGo (ws.drop ws.length) done cur = done ++ [cur] := by rw [List.drop_length, segGo]
variable {Gl : Glob}
attribute [local irreducible] PW PWL OpP PCalls PWO PWT bothT
abbrev rowS (r : List Str) : PV := .sl (r.map .str)
def oCells (done : List (List Str)) (x : PV) (k : Nat) : List PV := done.map rowS ++ x :: List.replicate k .any
theorem oCells_wipe (d : Nat → Bool) (done : List (List Str)) (x : PV) (k : Nat) : (oCells done x k).map (wipe d) = oCells done (wipe d x) k := by
 unfold oCells
 rw [List.map_append, List.map_map, List.map_cons, List.map_replicate]
 rfl
theorem oCells_len (done : List (List Str)) (x : PV) (k : Nat) : (oCells done x k).length = done.length + 1 + k := by
 simp [oCells]; omega
theorem oCells_at (done : List (List Str)) (x : PV) (k : Nat) : (oCells done x k)[done.length]? = some x := by
 unfold oCells
 rw [List.getElem?_append_right (by simp)]
 simp
theorem oCells_put (done : List (List Str)) (x y : PV) (k : Nat) : splice (oCells done x k) done.length [y] = oCells done y k := by
 unfold splice oCells
 rw [List.take_left' (by simp)]
 rw [List.drop_append]
 simp
theorem oCells_refs (d : Nat → Bool) (done : List (List Str)) (x : PV) (k : Nat) (n : Nat) (h : PV.refs d (n + 1) x = true) : (oCells done x k).all (PV.refs d (n + 1)) = true := by
 unfold oCells
 rw [List.all_append, List.all_cons, h, refs_rep, List.all_map]
 rw [show done.all (PV.refs d (n + 1) ∘ rowS) = true from List.all_eq_true.2 fun _ _ => rfl]
 rfl
theorem oCells_cell (done : List (List Str)) (x : PV) (k : Nat) (h : x.cells = [x]) : ∀ c ∈ oCells done x k, c.cells = [c] := by
 intro c hc
 rcases List.mem_append.1 hc with hc | hc
 ·obtain ⟨r, _, rfl⟩ := List.mem_map.1 hc
  rfl
 ·rcases List.mem_cons.1 hc with rfl | hc
  ·exact h
  ·exact cells_rep k c hc
theorem oCells_row (done : List (List Str)) (cur : List Str) (k : Nat) : (oCells done (rowS cur) k).take (done.length + 1) = (done ++ [cur]).map rowS := by
 have e : oCells done (rowS cur) k = (done ++ [cur]).map rowS ++ List.replicate k .any := by simp [oCells]
 rw [e, List.take_left' (by simp)]
def iS (done : List (List Str)) (cur : List Str) (c1 k : Nat) : List PObj := [.box (oCells done (.msl 1 1 0 (cur.map PV.str).length c1) k), .arr 1 (cur.map .str) c1]
theorem iS_refs (done : List (List Str)) (cur : List Str) (c1 k : Nat) (d : Nat → Bool) (h : d 1 = true) : (iS done cur c1 k).all (PObj.refs d 5) = true := by
 show ((oCells done (.msl 1 1 0 (cur.map PV.str).length c1) k).all (PV.refs d 5) && (true && true)) = true
 rw [oCells_refs d done (.msl 1 1 0 (cur.map PV.str).length c1) k 4 h]; rfl
theorem c_items (ws : List Str) (hl : ws.length < 1000000) : PFun Tryz.prog Gl 95 [.sl (ws.map .str)] fun r => r = .tup [.sl ((itemsT ws).1.map rowS), .bool (itemsT ws).2] := by
 (refine PFun.of hT Tryz.func95 rfl fun B hD => ?_; refine pw_norm rfl ?_)
 (refine zGom ?_)
 (refine pl_op rfl (op_litm hT rfl rfl rfl rfl rfl (by decide) rfl rfl rfl rfl ?_); (refine zNp ?_))
 (refine zGo ?_)
 refine pw_arrBox 0 rfl rfl (by decide) (by intro c hc; rw [List.mem_singleton.1 hc]; rfl) ?_
 refine pw_ghost 1 ?_
 refine zNq ?_
 refine pw_for hD (fun a : Nat × List (List Str) × List Str × Nat × Nat => [(4, .msl 1 0 0 (a.2.1.length + 1) (a.2.1.length + 1 + a.2.2.2.2)), (13, .int .i64 a.1), (10, .any)]) (fun a => iS a.2.1 a.2.2.1 a.2.2.2.1 a.2.2.2.2)
  (fun a => segGo (ws.drop a.1) a.2.1 a.2.2.1 = segs ws ∧ a.1 ≤ ws.length ∧ a.2.1.length ≤ a.1 ∧ a.2.2.1.length ≤ a.1 ∧ a.2.1.length + 1 + a.2.2.2.2 ≤ maxLen) (fun a => ws.length - a.1) (0, [], [], 0, 0) ⟨rfl, Nat.zero_le _, Nat.le_refl _, Nat.le_refl _, by decide⟩ 2 rfl (fun _ => rfl)
  ⟨.inr (.inr ⟨_, _, rfl, rfl, .inr (.inr (.inr (.inl ⟨rfl, _, _, rfl⟩))), trivial⟩), .inl rfl, trivial⟩ (fun _ => rfl) (fun a => both rfl (iS_refs _ _ _ _ _ rfl)) zLe ?_
 rintro ⟨i, done, cur, c1, k⟩ ⟨hr, hi, hd, hc, hm⟩
 dsimp only at hr hi hd hc hm ⊢
 unfold iS
 (repeat' (first | refine zS ?_ | (refine zT ?_ ?_ <;> intro h <;> first | exact zX | refine zNq ?_)))
 ·rename_i h0
  have hil : i < ws.length := by simpa using h0
  rw [segGo_drop hil, if_neg h] at hr
  (refine pl_op rfl (op_of (v_indexB done.length hT rfl rfl rfl rfl (by omega) (by omega) (by omega) (by omega)) ?_); (refine zNp ?_))
  (refine pl_op rfl (op_loadA (x := .msl 1 1 0 (cur.map PV.str).length c1) hT rfl rfl rfl rfl rfl rfl (oCells_at _ _ _) ?_); (refine zNp ?_))
  (repeat' (first | refine zS ?_ | (refine zT ?_ ?_ <;> intro h <;> first | exact zX | refine zNq ?_)))
  (refine pl_append (b := 16) hT hD rfl rfl rfl rfl rfl rfl rfl rfl (.inl (Nat.zero_lt_succ _)) rfl rfl (by simp; omega) (fun c2 _ hcap => ?_); (refine zNp ?_))
  refine pl_st (st' := [.box (oCells done .any k), .arr 1 (cur.map PV.str ++ [PV.str (ws.getD i [])]) c2]) (congrArg (fun x => [PObj.box x, .arr 1 (cur.map PV.str ++ [PV.str (ws.getD i [])]) c2]) (oCells_wipe _ _ _ _)) ?_
  refine pl_normV rfl ?_
  (refine pl_op rfl (op_of (v_indexB done.length hT rfl rfl rfl rfl (by omega) (by omega) (by omega) (by omega)) ?_); (refine zNp ?_))
  (refine pl_op rfl (op_storeA hT rfl rfl rfl rfl rfl rfl rfl rfl (by show done.length + 1 ≤ _; rw [oCells_len]; omega) (oCells_put _ _ _ _) ?_); refine zNp ?_)
  (repeat' (first | refine zS ?_ | (refine zT ?_ ?_ <;> intro h <;> first | exact zX | refine zNq ?_)))
  refine ⟨(i + 1, done, cur ++ [ws.getD i []], c2, k), ⟨hr, hil, by dsimp only; omega, by simp; omega, hm⟩, by dsimp only; omega, zLe, ?_⟩
  dsimp only
  simp only [List.map_append, List.length_append, List.map_cons, List.map_nil]
  (exact zLes)
 ·rename_i h0
  have hil : i < ws.length := by simpa using h0
  have h : ws.getD i [] = [44] := by simpa using h
  rw [segGo_drop hil, if_pos h] at hr
  refine pl_frzB 1 0 (cs1 := done.map rowS) (cs2 := List.replicate k .any) rfl rfl rfl (by decide) ?_
  refine zNp ?_
  refine pl_boxArr 0 (cs := oCells done (rowS cur) k) rfl (oCells_cell _ _ _ rfl) (oCells_refs _ _ _ _ 4 rfl) (by rw [oCells_len]; exact hm) ?_
  refine zNp ?_
  refine pl_shrink 0 (done.length + 1) rfl ?_
  refine zNp ?_
  rw [oCells_row, oCells_len]
  refine pl_append (b := 24) hT hD rfl rfl rfl rfl rfl (by simp) rfl rfl (.inl (Nat.zero_lt_succ _)) rfl rfl (by simp; omega) (fun c2 _ hcap => ?_)
  refine pl_normV rfl ?_
  refine zNp ?_
  refine pl_cap 0 rfl fun hc1 hc2 => ?_
  simp only [List.length_append, List.length_map, List.length_cons, List.length_nil] at hc1 ⊢
  obtain ⟨k', rfl⟩ : ∃ k', c2 = (done.length + 1) + 1 + k' := ⟨c2 - (done.length + 2), by omega⟩
  refine pl_inv (st' := [.box (oCells (done ++ [cur]) .nilsl k'), .arr 1 [] 0]) (fun A w β hv => ?_) ?_
  ·have h1 := hv.fill (i := 0) rfl hcap
   have h2 := h1.arrBox (i := 0) (cs := oCells (done ++ [cur]) .nilsl k') (cap := (done.length + 1) + 1 + k') (by simp [oCells]) (by simp [oCells_len]) hcap (oCells_cell _ _ _ rfl)
   exact h2.revive (i := 1) 1 rfl
  (repeat' (first | refine zS ?_ | (refine zT ?_ ?_ <;> intro h <;> first | exact zX | refine zNq ?_)))
  refine ⟨(i + 1, done ++ [cur], [], 0, k'), ⟨hr, hil, by simp; omega, by simp, by simp; omega⟩, by dsimp only; omega, ?_, ?_⟩
  ·simp only [List.length_append, List.length_cons, List.length_nil]
   (exact zLe)
  ·exact ⟨.inr (.inr ⟨_, _, rfl, rfl, LeBy.app (Le.refl _) ⟨.inr (.inr (.inr (.inl ⟨rfl, _, _, rfl⟩))), Le.refl _⟩⟩), .inl rfl, trivial⟩
 have hie : i = ws.length := by
  have : ¬ i < ws.length := by simpa using h
  omega
 subst hie
 rw [segGo_end] at hr
 have hsl : (segs ws).length = done.length + 1 := by rw [← hr]; simp
 refine pw_frzB 1 0 (cs1 := done.map rowS) (cs2 := List.replicate k .any) rfl rfl rfl (by decide) ?_
 refine zNq ?_
 refine pw_boxArr 0 (cs := oCells done (rowS cur) k) rfl (oCells_cell _ _ _ rfl) (oCells_refs _ _ _ _ 4 rfl) (by rw [oCells_len]; exact hm) ?_
 refine zNq ?_
 refine pw_shrink 0 (done.length + 1) rfl ?_
 refine zNq ?_
 rw [oCells_row, oCells_len, hr]
 refine pw_frz2 0 4 36 rfl rfl rfl (by simp [hsl]) ?_
 refine pw_normV rfl ?_
 refine zNq ?_
 unfold itemsT
 generalize segs ws = L at hsl ⊢
 refine pw_for hD (fun i : Nat => [(38, .int .i64 i)]) (fun _ => []) (fun i => i ≤ L.length ∧ ∀ (j : Nat) d, j < i → L[j]? = some d → ¬ d = []) (fun i => L.length - i) 0 ⟨Nat.zero_le _, by intro j d h; omega⟩ 0 rfl (fun _ => rfl) zLes (fun _ => rfl) (fun _ => rfl) zLe ?_
 rintro i ⟨hi, hno⟩
 have hlD : i < L.length → L[i]? = some (L.getD i default) := fun h => by rw [List.getD, List.getElem?_eq_getElem h]; rfl
 (repeat' (first | refine zS ?_ | (refine zT ?_ ?_ <;> intro h <;> first | exact zX | refine zNq ?_)))
 ·have h0 : L.getD i default = [] := List.length_eq_zero_iff.1 (by omega)
  have hall : L.all (fun s => !(s == [])) = false := List.all_eq_false.2 ⟨_, List.mem_of_getElem? (hlD (by omega)), by rw [h0]; decide⟩
  rw [hall]
  exact ret0 _ (.tup [.sl [], .bool false]) rfl rfl (by (refine .inr (.inr (.inr (.inr (.inr ⟨_, _, rfl, rfl, ?_⟩)))); (repeat (first | exact True.intro | refine ⟨.inr (.inl rfl), ?_⟩ | refine ⟨.inr (.inr (.inl ⟨rfl, rfl⟩)), ?_⟩ | refine ⟨.inr (.inr (.inr (.inl ⟨_, _, _, _, _, _, rfl, rfl, rfl, rfl, rfl⟩))), ?_⟩ | refine ⟨.inr (.inr (.inr (.inr (.inl ⟨_, _, rfl, rfl, ?_⟩)))), ?_⟩)))) rfl
 ·refine ⟨i + 1, ⟨by omega, fun j d hj hd => ?_⟩, by omega, zLe, zLes⟩
  rcases Nat.lt_succ_iff_lt_or_eq.1 hj with hj | rfl
  ·exact hno j d hj hd
  ·rw [hlD (by omega)] at hd
   cases hd
   intro e
   rw [e] at h
   exact h rfl
 ·have hall : L.all (fun s => !(s == [])) = true := List.all_eq_true.2 fun x hx => by
   obtain ⟨j, hj⟩ := List.mem_iff_getElem?.1 hx
   have := hno j x (by have := (List.getElem?_eq_some_iff.1 hj).1; omega) hj
   simpa using this
  rw [hall]
  exact ret2 _ rfl rfl rfl
instance (ws : List Str) : ConF Tryz.prog Gl 95 [.sl (ws.map .str)] (ws.length < 1000000) (.tup [.sl ((itemsT ws).1.map rowS), .bool (itemsT ws).2]) := ⟨e95, fun h => c_items ws h⟩
theorem take_drop_one {ws : List Str} {a b : Nat} (h : a ≤ b) (hb : b < ws.length) : (ws.drop a).take (b + 1 - a) = (ws.drop a).take (b - a) ++ [ws.getD b []] := by
 rw [show b + 1 - a = (b - a) + 1 by omega, List.take_succ_eq_append_getElem (by rw [List.length_drop]; omega)]
 congr 2
 rw [List.getElem_drop, List.getD, List.getElem?_eq_getElem hb]
 simp [show a + (b - a) = b by omega]
theorem c_ritems (ws : List Str) (hl : ws.length < 1000000) : PFun Tryz.prog Gl 161 [.sl (ws.map .str)] fun r => r = .tup [.sl ((itemsT ws).1.map rowS), .bool (itemsT ws).2] := by
 (refine PFun.of hT Tryz.func161 rfl fun B hD => ?_; refine pw_norm rfl ?_)
 (repeat' (first | refine zS ?_ | refine zq5 ?_ | refine zq6 ?_ | (refine zT ?_ ?_ <;> intro h <;> first | exact zX | refine zNq ?_)))
 refine pw_ghost 1 ?_
 refine zNq ?_
 unfold itemsT
 have hsg : segs ws = segGo ws [] [] := rfl
 generalize segs ws = L at hsg ⊢
 refine pw_for hD (fun a : Nat × Nat × List (List Str) × Nat => [(4, .msl 1 0 0 (a.2.2.1.map rowS).length a.2.2.2), (5, .int .i64 a.2.1), (6, .int .i64 a.1)]) (fun a => [.arr 1 (a.2.2.1.map rowS) a.2.2.2])
  (fun a => a.2.1 ≤ a.1 ∧ a.2.2.1.length ≤ a.1 ∧ (∀ s ∈ a.2.2.1, ¬ s = []) ∧ (a.1 ≤ ws.length ∧ segGo (ws.drop a.1) a.2.2.1 ((ws.drop a.2.1).take (a.1 - a.2.1)) = L ∨ a.1 = ws.length + 1 ∧ a.2.2.1 = L)) (fun a => ws.length + 1 - a.1) (0, 0, [], 0) ⟨Nat.le_refl _, Nat.le_refl _, by simp, .inl ⟨Nat.zero_le _, hsg.symm⟩⟩ 1 rfl (fun _ => rfl) zLes (fun _ => rfl) (fun _ => rfl) zLe ?_
 rintro ⟨i, a, done, c⟩ ⟨ha, hd, hne, hcase⟩
 dsimp only at ha hd hne hcase ⊢
 (repeat' (first | refine zSm ?_ | refine zq5 ?_ | refine zq6 ?_ | (refine zT ?_ ?_ <;> intro h <;> first | exact zX | refine zNq ?_)))
 ·rename_i h0
  obtain ⟨h1, h2⟩ := h
  have hil : i < ws.length := by omega
  rcases hcase with ⟨_, hs⟩ | ⟨e, _⟩
  ·rw [segGo_drop hil, if_neg h2, ← take_drop_one ha hil] at hs
   exact ⟨(i + 1, a, done, c), ⟨by dsimp only; omega, by dsimp only; omega, hne, .inl ⟨hil, hs⟩⟩, by dsimp only; omega, zLe, zLes⟩
  ·omega
 ·rename_i h0 h1
  rcases hcase with ⟨_, hs⟩ | ⟨e, _⟩
  ·have hia : i = a := by omega
   subst hia
   rw [Nat.sub_self, List.take_zero] at hs
   have hm : ([] : List Str) ∈ L := by
    rw [← hs]
    by_cases hil : i < ws.length
    ·have hw : ws.getD i [] = [44] := by
      by_cases e : ws.getD i [] = [44]
      ·exact e
      ·exact (h1 ⟨by omega, e⟩).elim
     rw [segGo_drop hil, if_pos hw]
     obtain ⟨t, ht, _⟩ := segGo_pre (ws.drop (i + 1)) (done ++ [[]]) []
     rw [ht]; simp
    ·rw [show i = ws.length by omega, segGo_end]; simp
   have hall : L.all (fun s => !(s == [])) = false := List.all_eq_false.2 ⟨_, hm, by decide⟩
   rw [hall]
   exact ret0 _ (.tup [.sl [], .bool false]) rfl rfl (by (refine .inr (.inr (.inr (.inr (.inr ⟨_, _, rfl, rfl, ?_⟩)))); (repeat (first | exact True.intro | refine ⟨.inr (.inl rfl), ?_⟩ | refine ⟨.inr (.inr (.inl ⟨rfl, rfl⟩)), ?_⟩ | refine ⟨.inr (.inr (.inr (.inl ⟨_, _, _, _, _, _, rfl, rfl, rfl, rfl, rfl⟩))), ?_⟩ | refine ⟨.inr (.inr (.inr (.inr (.inl ⟨_, _, rfl, rfl, ?_⟩)))), ?_⟩)))) rfl
  ·omega
 ·rename_i q0 q1
  rcases hcase with ⟨_, hs⟩ | ⟨e, _⟩
  ·(refine pl_op rfl (op_litm hT rfl rfl rfl rfl rfl (by decide) rfl rfl rfl rfl ?_); (refine zNp ?_))
   (repeat' (first | refine zSm ?_ | refine zq5 ?_ | refine zq6 ?_ | (refine zT ?_ ?_ <;> intro h <;> first | exact zX | refine zNq ?_)))
   (refine pl_op rfl (op_of (v_sliceR a (i - a) hT rfl rfl rfl rfl rfl (by omega) (by omega) (by omega) (by omega) (by omega) (fun _ => rfl)) ?_); (refine zNp ?_))
   (refine pl_appendN (b := 16) hT hD rfl rfl rfl rfl rfl rfl rfl rfl ?_ ?_ (by simp; omega) (fun c1 hcap => ?_); (focus (simp only [List.all_map]; exact List.all_eq_true.2 fun _ _ => rfl)); (focus (simp only [List.all_map]; exact List.all_eq_true.2 fun _ _ => rfl)); (refine zNp ?_))
   refine pl_normV rfl ?_
   refine zNp ?_
   refine pl_frz1 1 33 rfl rfl rfl ?_
   refine zNp ?_
   (repeat' (first | refine zS ?_ | refine zq5 ?_ | refine zq6 ?_ | (refine zT ?_ ?_ <;> intro h <;> first | exact zX | refine zNq ?_)))
   (refine pl_append (b := 24) hT hD rfl rfl rfl rfl rfl rfl rfl rfl (.inl (Nat.zero_lt_succ _)) rfl rfl (by simp; omega) (fun c2 _ hcap => ?_); (refine zNp ?_))
   refine pl_normV rfl ?_
   (repeat' (first | refine zS ?_ | refine zq5 ?_ | refine zq6 ?_ | (refine zT ?_ ?_ <;> intro h <;> first | exact zX | refine zNq ?_)))
   have hne2 : ∀ s ∈ done ++ [(ws.drop a).take (i - a)], ¬ s = [] := by
    intro s hm
    rcases List.mem_append.1 hm with hm | hm
    ·exact hne s hm
    ·rw [List.mem_singleton.1 hm]
     intro e
     have := congrArg List.length e
     rw [List.length_take, List.length_drop, List.length_nil] at this
     omega
   refine ⟨(i + 1, i + 1, done ++ [(ws.drop a).take (i - a)], c2), ⟨Nat.le_refl _, by simp; omega, hne2, ?_⟩, by dsimp only; omega, ?_, ?_⟩
   ·by_cases hil : i < ws.length
    ·have hw : ws.getD i [] = [44] := by
      by_cases e : ws.getD i [] = [44]
      ·exact e
      ·exact (q1 ⟨by omega, e⟩).elim
     rw [segGo_drop hil, if_pos hw] at hs
     exact .inl ⟨hil, by rw [Nat.sub_self, List.take_zero]; exact hs⟩
    ·have hie : i = ws.length := by omega
     rw [hie, segGo_end, ← hie] at hs
     exact .inr ⟨by rw [hie], hs⟩
   all_goals simp only [List.map_append, List.length_append, List.map_cons, List.map_nil]
   ·(exact zLe)
   ·(exact zLes)
  ·omega
 ·rcases hcase with ⟨h1, _⟩ | ⟨e, hs⟩
  ·omega
  ·subst hs
   have hall : done.all (fun s => !(s == [])) = true := List.all_eq_true.2 fun x hx => by simpa using hne x hx
   rw [hall]
   exact ret0 _ (.tup [.sl (done.map rowS), .bool true]) rfl rfl (by (refine .inr (.inr (.inr (.inr (.inr ⟨_, _, rfl, rfl, ?_⟩)))); (repeat (first | exact True.intro | refine ⟨.inr (.inl rfl), ?_⟩ | refine ⟨.inr (.inr (.inl ⟨rfl, rfl⟩)), ?_⟩ | refine ⟨.inr (.inr (.inr (.inl ⟨_, _, _, _, _, _, rfl, rfl, rfl, rfl, rfl⟩))), ?_⟩ | refine ⟨.inr (.inr (.inr (.inr (.inl ⟨_, _, rfl, rfl, ?_⟩)))), ?_⟩)))) rfl

end
end Go.Proofs.YtkaobkjcjodffaaGreatDoor