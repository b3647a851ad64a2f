/-
 Contracts of functions, walked over pure values.
-/
import Derived.Test.YtkaobkjcjodffaaGreatDoorTK6
import Derived.Test.YtkaobkjcjodffaaGreatDoorTK3
import Derived.Test.YtkaobkjcjodffaaGreatDoorSPwBox
set_option maxHeartbeats 20000000
set_option maxRecDepth 100000
namespace Go.Proofs.YtkaobkjcjodffaaGreatDoor
open Go Go.Pw
variable {Gl : Glob}
attribute [local irreducible] PW PWL OpP PCalls PWO PWT bothT
def dayR (a : Int) (k : Nat) (from' to' : Int) : TRng := ⟨(a + k) * 1440 + from', (a + k) * 1440 + to' - 1⟩
def itemRs (d t : Str) : List TRng := (List.range (spanB d - spanA d + 1).toNat).map fun k => dayR (spanA d) k (timeA t) (timeB t)
def wRun : List Str → List TRng → Nat → Option (List TRng × Nat)
 | d :: t :: rest, out, n => if spanOk d = false ∨ timeOk t = false then none else match rest with
  | [] => some (out ++ itemRs d t, n + 1)
  | c :: rest' => if c = [44] then wRun rest' (out ++ itemRs d t) (n + 1) else none
 | _, _, _ => none
def wEnd : Option (List TRng × Nat) → List TRng × Int
 | none => ([], 4)
 | some (out, n) => if n > 16 then ([], 3) else (canon out, 0)
def wParse (ws : List Str) : List TRng × Int := if ws = [[110, 101, 118, 101, 114]] then ([], 0) else wEnd (wRun ws [] 0)
theorem span_facts (d : Str) (h : spanOk d = true) : 0 ≤ spanA d ∧ spanA d ≤ spanB d ∧ spanB d ≤ 6 := by
 have h1 := dayIx_range (Lib.cut d [45]).1
 have h2 := dayIx_range (if (Lib.cut d [45]).2.2 = true then (Lib.cut d [45]).2.1 else (Lib.cut d [45]).1)
 simp only [spanOk, Bool.and_eq_true, decide_eq_true_eq] at h
 unfold spanA spanB at *
 omega
theorem time_facts (t : Str) (h : timeOk t = true) : 0 ≤ timeA t ∧ timeA t < timeB t ∧ timeB t ≤ 1440 := by
 have h1 := clock_range (Lib.cut t [45]).1
 have h2 := clock_range (Lib.cut t [45]).2.1
 simp only [timeOk, Bool.and_eq_true, decide_eq_true_eq] at h
 unfold timeA timeB at *
 omega
theorem spanA_range (d : Str) : -1 ≤ spanA d ∧ spanA d ≤ 6 := dayIx_range _
theorem spanB_range (d : Str) : -1 ≤ spanB d ∧ spanB d ≤ 6 := dayIx_range _
theorem timeA_range (d : Str) : -1 ≤ timeA d ∧ timeA d ≤ 1440 := clock_range _
theorem timeB_range (d : Str) : -1 ≤ timeB d ∧ timeB d ≤ 1440 := clock_range _
theorem spanOk_iff (d : Str) : spanOk d = true ↔ spanA d ≥ 0 ∧ spanB d ≥ spanA d := by unfold spanOk; rw [Bool.and_eq_true, decide_eq_true_eq, decide_eq_true_eq]
theorem timeOk_iff (d : Str) : timeOk d = true ↔ timeA d ≥ 0 ∧ timeB d > timeA d := by unfold timeOk; rw [Bool.and_eq_true, decide_eq_true_eq, decide_eq_true_eq]
theorem itemRs_len (d t : Str) : (itemRs d t).length = (spanB d - spanA d + 1).toNat := by simp [itemRs]
theorem itemRs_take {d t : Str} {k : Nat} (h : k < (itemRs d t).length) : (itemRs d t).take (k + 1) = (itemRs d t).take k ++ [dayR (spanA d) k (timeA t) (timeB t)] := by
 rw [List.take_succ_eq_append_getElem h]
 congr 2
 simp [itemRs]
theorem itemRs_in {d t : Str} (h1 : spanOk d = true) (h2 : timeOk t = true) : ∀ r ∈ itemRs d t, RIn r ∧ r.lo ≤ r.hi := by
 intro r hr
 have f1 := span_facts d h1
 have f2 := time_facts t h2
 simp only [itemRs, List.mem_map, List.mem_range] at hr
 obtain ⟨k, hk, rfl⟩ := hr
 unfold RIn dayR
 dsimp only
 omega
theorem wRun_none {ws : List Str} {i : Nat} (h : ws.length ≤ i + 1) (out : List TRng) (n : Nat) : wRun (ws.drop i) out n = none := by
 have hl : (ws.drop i).length ≤ 1 := by rw [List.length_drop]; omega
 match ws.drop i, hl with
 | [], _ => rfl
 | [_], _ => rfl
theorem wRun_step {ws : List Str} {i : Nat} (h : i + 1 < ws.length) (out : List TRng) (n : Nat) : wRun (ws.drop i) out n = if spanOk (ws.getD i []) = false ∨ timeOk (ws.getD (i + 1) []) = false then none else if ws.length ≤ i + 2 then some (out ++ itemRs (ws.getD i []) (ws.getD (i + 1) []), n + 1) else if ws.getD (i + 2) [] = [44] then wRun (ws.drop (i + 3)) (out ++ itemRs (ws.getD i []) (ws.getD (i + 1) [])) (n + 1) else none := by
 have e1 : ws.drop i = ws.getD i [] :: ws.getD (i + 1) [] :: ws.drop (i + 2) := by
  rw [List.drop_eq_getElem_cons (by omega : i < ws.length), List.drop_eq_getElem_cons h]
  simp [List.getD, List.getElem?_eq_getElem h, List.getElem?_eq_getElem (by omega : i < ws.length)]
 rw [e1]
 by_cases h2 : ws.length ≤ i + 2
 ·rw [List.drop_eq_nil_of_le h2, if_pos h2]
  simp only [wRun]
 ·rw [if_neg h2, List.drop_eq_getElem_cons (by omega : i + 2 < ws.length)]
  simp only [wRun]
  rw [show ws.getD (i + 2) [] = ws[i + 2] from by simp [List.getD, List.getElem?_eq_getElem (by omega : i + 2 < ws.length)]]
theorem never_iff (ws : List Str) : ws = [[110, 101, 118, 101, 114]] ↔ (ws.length : Int) = 1 ∧ ws.getD 0 [] = [110, 101, 118, 101, 114] := by
 constructor
 ·rintro rfl; exact ⟨rfl, rfl⟩
 ·rintro ⟨h1, h2⟩
  match ws, h1, h2 with
  | [x], _, h2 => rw [show x = _ from h2]
  | [], h1, _ => cases h1
  | _ :: _ :: _, h1, _ => simp at h1; omega
theorem c_wParse (hG : GM Gl) (hD' : GD Gl) (ws : List Str) (hl : ws.length < 1000000) (hw : ∀ k, (ws.getD k []).length < 4294967281) : PFun Tryz.prog Gl 98 [.sl (ws.map .str)] fun r => r = .tup [.sl ((wParse ws).1.map eRng), .int .i64 (wParse ws).2] := by
 (refine PFun.of hT Tryz.func98 rfl fun B hD => ?_; refine pw_norm rfl ?_)
 have hnv := never_iff ws
 (repeat' (first | refine zS ?_ | refine zq5 ?_ | refine zq6 ?_ | (refine zT ?_ ?_ <;> intro h <;> first | exact zX | refine zNq ?_)))
 ·have hp : wParse ws = ([], 0) := by unfold wParse; rw [if_pos (hnv.2 h)]
  rw [hp]
  exact ret0 _ (.tup [.sl [], .int .i64 0]) rfl rfl (by (refine .inr (.inr (.inr (.inr (.inr ⟨_, _, rfl, rfl, ?_⟩)))); (repeat (first | exact True.intro | refine ⟨.inr (.inl rfl), ?_⟩ | refine ⟨.inr (.inr (.inl ⟨rfl, rfl⟩)), ?_⟩ | refine ⟨.inr (.inr (.inr (.inl ⟨_, _, _, _, _, _, rfl, rfl, rfl, rfl, rfl⟩))), ?_⟩ | refine ⟨.inr (.inr (.inr (.inr (.inl ⟨_, _, rfl, rfl, ?_⟩)))), ?_⟩)))) rfl
 have hp : wParse ws = wEnd (wRun ws [] 0) := by unfold wParse; rw [if_neg fun hh => h (hnv.1 hh)]
 rw [hp]
 clear hp h hnv
 refine pw_ghost 2 ?_
 refine zNq ?_
 refine pw_for hD (fun a : Nat × List TRng × Nat × Nat => [(4, .msl 2 0 0 (a.2.1.map eRng).length a.2.2.2), (5, .int .i64 a.2.2.1), (6, .int .i64 a.1)]) (fun a => [.arr 2 (a.2.1.map eRng) a.2.2.2])
  (fun a => wRun (ws.drop a.1) a.2.1 a.2.2.1 = wRun ws [] 0 ∧ (∀ r ∈ a.2.1, RIn r ∧ r.lo ≤ r.hi) ∧ a.2.1.length ≤ 7 * a.2.2.1 ∧ a.2.2.1 ≤ a.1 ∧ a.1 ≤ ws.length + 1) (fun a => ws.length + 3 - a.1) (0, [], 0, 0) ⟨rfl, by simp, by simp, Nat.le_refl _, by omega⟩ 1 rfl (fun _ => rfl) zLes (fun _ => rfl) (fun _ => rfl) zLe ?_
 rintro ⟨i, out, n, cap⟩ ⟨hr, hin, hlo, hni, hi⟩
 dsimp only at hr hin hlo hni hi ⊢
 have hw0 := hw i
 have hw1 := hw (i + 1)
 have r1 := spanA_range (ws.getD i [])
 have r2 := spanB_range (ws.getD i [])
 have r3 := timeA_range (ws.getD (i + 1) [])
 have r4 := timeB_range (ws.getD (i + 1) [])
 have k1 := spanOk_iff (ws.getD i [])
 have k2 := timeOk_iff (ws.getD (i + 1) [])
 have kb : ∀ b : Bool, (b = false) = ¬ b = true := fun b => by cases b <;> simp
 (repeat' (first | refine zS ?_ | refine zq5 ?_ | refine zq6 ?_ | (refine zT ?_ ?_ <;> intro h <;> first | exact zX | refine zNq ?_)))
 ·rw [← hr, wRun_none (by omega)]
  exact ret0 _ (.tup [.sl [], .int .i64 4]) rfl rfl (by (refine .inr (.inr (.inr (.inr (.inr ⟨_, _, rfl, rfl, ?_⟩)))); (repeat (first | exact True.intro | refine ⟨.inr (.inl rfl), ?_⟩ | refine ⟨.inr (.inr (.inl ⟨rfl, rfl⟩)), ?_⟩ | refine ⟨.inr (.inr (.inr (.inl ⟨_, _, _, _, _, _, rfl, rfl, rfl, rfl, rfl⟩))), ?_⟩ | refine ⟨.inr (.inr (.inr (.inr (.inl ⟨_, _, rfl, rfl, ?_⟩)))), ?_⟩)))) rfl
 ·rw [wRun_step (by omega), if_pos (by rw [kb, kb, k1, k2]; exact h)] at hr
  rw [← hr]
  exact ret0 _ (.tup [.sl [], .int .i64 4]) rfl rfl (by (refine .inr (.inr (.inr (.inr (.inr ⟨_, _, rfl, rfl, ?_⟩)))); (repeat (first | exact True.intro | refine ⟨.inr (.inl rfl), ?_⟩ | refine ⟨.inr (.inr (.inl ⟨rfl, rfl⟩)), ?_⟩ | refine ⟨.inr (.inr (.inr (.inl ⟨_, _, _, _, _, _, rfl, rfl, rfl, rfl, rfl⟩))), ?_⟩ | refine ⟨.inr (.inr (.inr (.inr (.inl ⟨_, _, rfl, rfl, ?_⟩)))), ?_⟩)))) rfl
 have s1 : spanOk (ws.getD i []) = true := k1.2 (by omega)
 have s2 : timeOk (ws.getD (i + 1) []) = true := k2.2 (by omega)
 rw [wRun_step (by omega), if_neg (by rw [s1, s2]; simp)] at hr
 have hin2 := itemRs_in s1 s2
 have f1 := span_facts _ s1
 have f2 := time_facts _ s2
 have hil := itemRs_len (ws.getD i []) (ws.getD (i + 1) [])
 have htk := @itemRs_take (ws.getD i []) (ws.getD (i + 1) [])
 generalize hits : itemRs (ws.getD i []) (ws.getD (i + 1) []) = its at hr hin2 hil htk ⊢
 refine pw_for hD (fun a : Nat × Nat => [(4, .msl 2 0 0 ((out ++ its.take a.1).map eRng).length a.2), (13, .int .i64 (spanA (ws.getD i []) + a.1))]) (fun a => [.arr 2 ((out ++ its.take a.1).map eRng) a.2])
  (fun a => a.1 ≤ its.length) (fun a => its.length - a.1) (0, cap) (Nat.zero_le _) 1 rfl (fun _ => rfl) (by simp only [List.take_zero, List.append_nil]; (exact zLes)) (fun _ => rfl) (fun _ => rfl) (by simp only [List.take_zero, List.append_nil, Int.natCast_zero, Int.add_zero]; (exact zLe)) ?_
 rintro ⟨k, cap2⟩ hk
 dsimp only at hk ⊢
 have htl : (its.take k).length ≤ k := List.length_take_le ..
 (repeat' (first | refine zS ?_ | refine zq5 ?_ | refine zq6 ?_ | (refine zT ?_ ?_ <;> intro h <;> first | exact zX | refine zNq ?_)))
 ·have hkl : k < its.length := by omega
  have hkn := htk hkl
  (refine pl_append (b := 8) hT hD rfl rfl rfl rfl rfl rfl rfl rfl (.inl (Nat.zero_lt_succ _)) rfl rfl (by simp; omega) (fun cap3 _ hcap => ?_); (refine zNp ?_))
  (repeat' (first | refine zS ?_ | refine zq5 ?_ | refine zq6 ?_ | (refine zT ?_ ?_ <;> intro h <;> first | exact zX | refine zNq ?_)))
  refine ⟨(k + 1, cap3), hkl, by show _ - (k + 1) < _ - k; omega, ?_, ?_⟩
  all_goals simp only [hkn, ← List.append_assoc, @List.map_append _ _ _ _ [_]]
  ·have e : spanA (ws.getD i []) + ((k + 1 : Nat) : Int) = spanA (ws.getD i []) + k + 1 := by omega
   rw [e]; simp only [List.length_append, List.length_map, List.length_cons, List.length_nil]
   (exact zLe)
  ·(exact zLes)
 all_goals
  have hkl : k = its.length := by omega
  subst hkl
  rw [List.take_length] at *
 ·rw [if_pos (by omega)] at hr
  rw [← hr, wEnd, if_pos (by omega)]
  exact ret0 _ (.tup [.sl [], .int .i64 3]) rfl rfl (by (refine .inr (.inr (.inr (.inr (.inr ⟨_, _, rfl, rfl, ?_⟩)))); (repeat (first | exact True.intro | refine ⟨.inr (.inl rfl), ?_⟩ | refine ⟨.inr (.inr (.inl ⟨rfl, rfl⟩)), ?_⟩ | refine ⟨.inr (.inr (.inr (.inl ⟨_, _, _, _, _, _, rfl, rfl, rfl, rfl, rfl⟩))), ?_⟩ | refine ⟨.inr (.inr (.inr (.inr (.inl ⟨_, _, rfl, rfl, ?_⟩)))), ?_⟩)))) rfl
 ·rw [if_pos (by omega)] at hr
  rw [← hr, wEnd, if_neg (by omega)]
  have ho : ∀ r ∈ out ++ its, RIn r ∧ r.lo ≤ r.hi := fun r hm => (List.mem_append.1 hm).elim (hin r) (hin2 r)
  have hne : (out ++ its).filter (fun r => decide (r.lo ≤ r.hi)) ≠ [] := by
   rw [List.filter_eq_self.2 fun r hm => decide_eq_true (ho r hm).2]
   intro e
   have := congrArg List.length e
   simp only [List.length_append, List.length_nil] at this
   omega
  have hlen : (out ++ its).length < 4294967296 := by rw [List.length_append]; omega
  generalize out ++ its = o at ho hne hlen ⊢
  refine pl_frz1 0 91 rfl rfl rfl ?_
  refine zNp ?_
  (refine pl_op rfl (op_fun (PFun.le (args := [.sl (o.map eRng), .nilsl]) (c_union o hlen (fun r hm => (ho r hm).1) hne) ⟨.inr (.inl rfl), .inr (.inr (.inl ⟨rfl, rfl⟩)), trivial⟩) rfl rfl e143 zLe rfl (fun r hr => ?_)); subst hr; refine ⟨rfl, ?_⟩; (refine zNp ?_))
  (repeat' (first | refine zS ?_ | refine zq5 ?_ | refine zq6 ?_ | (refine zT ?_ ?_ <;> intro h <;> first | exact zX | refine zNq ?_)))
  exact ret1 _ rfl rfl rfl
 ·rename_i hc
  rw [if_neg (by omega), if_neg hc] at hr
  rw [← hr]
  exact ret0 _ (.tup [.sl [], .int .i64 4]) rfl rfl (by (refine .inr (.inr (.inr (.inr (.inr ⟨_, _, rfl, rfl, ?_⟩)))); (repeat (first | exact True.intro | refine ⟨.inr (.inl rfl), ?_⟩ | refine ⟨.inr (.inr (.inl ⟨rfl, rfl⟩)), ?_⟩ | refine ⟨.inr (.inr (.inr (.inl ⟨_, _, _, _, _, _, rfl, rfl, rfl, rfl, rfl⟩))), ?_⟩ | refine ⟨.inr (.inr (.inr (.inr (.inl ⟨_, _, rfl, rfl, ?_⟩)))), ?_⟩)))) rfl
 ·rename_i hc
  have hc : ws.getD (i + 2) [] = [44] := by simpa using hc
  rw [if_neg (by omega), if_pos hc] at hr
  exact ⟨(i + 3, out ++ its, n + 1, cap2), ⟨hr, fun r hm => (List.mem_append.1 hm).elim (hin r) (hin2 r), by simp; omega, by dsimp only; omega, by dsimp only; omega⟩, by dsimp only; omega, zLe, zLes⟩
end Go.Proofs.YtkaobkjcjodffaaGreatDoor
namespace Go.Proofs.YtkaobkjcjodffaaGreatDoor
open Go Go.Pw
variable {Gl : Glob}
attribute [local irreducible] PW PWL OpP PCalls PWO PWT bothT
theorem c_valid (l : List TRng) (top : Int) (hl : l.length < 4294967296) (ht : 0 ≤ top ∧ top < 4294967296) (hin : ∀ r ∈ l, RIn r) : PFun Tryz.prog Gl 149 [.sl (l.map eRng), .int .u32 top] fun r => r = .bool (ivalid l top) := by
 (refine PFun.of hT Tryz.func149 rfl fun B hD => ?_; refine pw_norm rfl ?_)
 (repeat' (first | (refine zDr [[0,1,2,3,4,5,6,7,8,9,10,11,12,13,14,15,16,17,18,19,20,21,22,23,24,25,26,27,28]] ?_; refine zDn ?_) | refine zS ?_ | refine zD ?_ | refine po_both ?_ ?_ | refine pwt_both ?_ ?_ | refine pwt_fork ?_ | refine pwt_lin ?_ | (refine po_test rfl rfl rfl rfl zB ?_ ?_ <;> intro hb <;> first | exact zX | refine zDn ?_) | refine zq5 ?_ | refine zq6 ?_ | (refine zT ?_ ?_ <;> intro h <;> first | exact zX | refine zNq ?_)))
 refine pw_for hD (fun i : Nat => [(9, .int .i64 i)]) (fun _ => []) (fun i => i ≤ l.length ∧ ∀ j, j < i → chk top l j) (fun i => l.length - i) 0 ⟨Nat.zero_le _, fun j h => by cases h⟩ 0 rfl (fun _ => rfl) zLes (fun _ => rfl) (fun _ => rfl) zLe ?_
 rintro i ⟨hi, hall⟩
 have hri : i < l.length → RIn (l.getD i default) := fun h => by rw [List.getD, List.getElem?_eq_getElem h]; exact hin _ (List.getElem_mem h)
 have hrp : i < l.length → RIn (l.getD (i - 1) default) := fun h => by rw [List.getD, List.getElem?_eq_getElem (by omega : i - 1 < l.length)]; exact hin _ (List.getElem_mem _)
 unfold RIn at hri hrp
 (repeat' (first | (refine zDr [[0,1,2,3,4,5,6,7,8,9,10,11,12,13,14,15,16,17,18,19,20,21,22,23,24,25,26,27,28]] ?_; refine zDn ?_) | refine zS ?_ | refine zD ?_ | refine po_both ?_ ?_ | refine pwt_both ?_ ?_ | refine pwt_fork ?_ | refine pwt_lin ?_ | (refine po_test rfl rfl rfl rfl zB ?_ ?_ <;> intro hb <;> first | exact zX | refine zDn ?_) | refine zq5 ?_ | refine zq6 ?_ | (refine zT ?_ ?_ <;> intro h <;> first | exact zX | refine zNq ?_)))
 ·exact ret1 _ rfl (congrArg PV.bool (decide_eq_false fun hh => by have := (hh i (by omega)).1; omega)).symm rfl
 ·exact ret1 _ rfl (congrArg PV.bool (decide_eq_false fun hh => by have := (hh i (by omega)).2.1; omega)).symm rfl
 ·exact ret1 _ rfl (congrArg PV.bool (decide_eq_false fun hh => by have := (hh i (by omega)).2.2; omega)).symm rfl
 ·exact ⟨i + 1, ⟨by omega, fun j hj => by
   by_cases e : j = i
   ·subst e; exact ⟨by omega, by omega, fun _ => by omega⟩
   ·exact hall j (by omega)⟩, by omega, zLe, zLes⟩
 ·exact ⟨i + 1, ⟨by omega, fun j hj => by
   by_cases e : j = i
   ·subst e; exact ⟨by omega, by omega, fun _ => by omega⟩
   ·exact hall j (by omega)⟩, by omega, zLe, zLes⟩
 ·exact ret1 _ rfl (congrArg PV.bool (decide_eq_true fun j hj => hall j (by omega))).symm rfl
theorem c_isect (a b : List TRng) (hla : a.length < 1000000) (hlb : b.length < 1000000) (ha : Can a) (hb : Can b) (hia : ∀ r ∈ a, RIn r) (hib : ∀ r ∈ b, RIn r) (ha0 : a ≠ []) (hb0 : b ≠ []) : PFun Tryz.prog Gl 150 [.sl (a.map eRng), .sl (b.map eRng)] fun r => r = .sl ((isect a b).map eRng) := by
 (refine PFun.of hT Tryz.func150 rfl fun B hD => ?_; refine pw_norm rfl ?_)
 rw [← isx_eq ha hb]
 have fa := canon_self ha
 have fb := canon_self hb
 have c1 := c_canonical (Gl := Gl) a (by omega) hia (by rw [ha.filt]; exact ha0)
 have c2 := c_canonical (Gl := Gl) b (by omega) hib (by rw [hb.filt]; exact hb0)
 rw [fa] at c1
 rw [fb] at c2
 (repeat' (first | refine zS ?_ | refine zq5 ?_ | refine zq6 ?_ | (refine zT ?_ ?_ <;> intro h <;> first | exact zX | refine zNq ?_)))
 (refine pl_op rfl (op_fun (c1) rfl rfl e174 zLe rfl (fun r hr => ?_)); subst hr; refine ⟨rfl, ?_⟩; (refine zNp ?_))
 (repeat' (first | refine zS ?_ | refine zq5 ?_ | refine zq6 ?_ | (refine zT ?_ ?_ <;> intro h <;> first | exact zX | refine zNq ?_)))
 (refine pl_op rfl (op_fun (c2) rfl rfl e174 zLe rfl (fun r hr => ?_)); subst hr; refine ⟨rfl, ?_⟩; (refine zNp ?_))
 (repeat' (first | refine zS ?_ | refine zq5 ?_ | refine zq6 ?_ | (refine zT ?_ ?_ <;> intro h <;> first | exact zX | refine zNq ?_)))
 refine pw_ghost 2 ?_
 refine zNq ?_
 refine pw_for hD (fun x : Nat × Nat × List TRng × Nat => [(5, .msl 2 0 0 (x.2.2.1.map eRng).length x.2.2.2), (6, .int .i64 x.1), (7, .int .i64 x.2.1)]) (fun x => [.arr 2 (x.2.2.1.map eRng) x.2.2.2])
  (fun x => x.2.2.1 ++ isx (a.drop x.1) (b.drop x.2.1) = isx a b ∧ x.1 ≤ a.length ∧ x.2.1 ≤ b.length ∧ x.2.2.1.length ≤ x.1 + x.2.1) (fun x => a.length + b.length - x.1 - x.2.1) (0, 0, [], 0) ⟨rfl, Nat.zero_le _, Nat.zero_le _, Nat.le_refl _⟩ 1 rfl (fun _ => rfl) zLes (fun _ => rfl) (fun _ => rfl) zLe ?_
 rintro ⟨i, j, o, cap⟩ ⟨hr, hi, hj, ho⟩
 dsimp only at hr hi hj ho ⊢
 have ria : i < a.length → RIn (a.getD i default) := fun h => by rw [List.getD, List.getElem?_eq_getElem h]; exact hia _ (List.getElem_mem h)
 have rib : j < b.length → RIn (b.getD j default) := fun h => by rw [List.getD, List.getElem?_eq_getElem h]; exact hib _ (List.getElem_mem h)
 unfold RIn at ria rib
 (repeat' (first | (refine zDr [[0,1,2,3,4,5,6,7,8,9,10,11,12,13,14,15,16,17,18,19,20,21,22,23]] ?_; refine zDn ?_) | (refine zDr [[0,1,2,3,4,5,6,7,8,9,10]] ?_; refine zDn ?_) | refine zS ?_ | refine zD ?_ | refine po_both ?_ ?_ | refine pwt_both ?_ ?_ | refine pwt_fork ?_ | refine pwt_lin ?_ | (refine po_test rfl rfl rfl rfl zB ?_ ?_ <;> intro hb <;> first | exact zX | refine zDn ?_) | refine zq5 ?_ | refine zq6 ?_ | (refine zT ?_ ?_ <;> intro h <;> first | exact zX | refine zNq ?_)))
 ·(refine po_val rfl rfl (v_max rfl rfl rfl) ?_; refine zDn ?_)
  refine zD ?_
  (refine po_val rfl rfl (v_min rfl rfl rfl) ?_; refine zDn ?_)
  refine zD ?_
  (repeat' (first | (refine zDr [[0,1,2,3,4,5,6,7,8,9,10,11,12,13,14,15,16,17,18,19,20,21,22,23]] ?_; refine zDn ?_) | (refine zDr [[0,1,2,3,4,5,6,7,8,9,10]] ?_; refine zDn ?_) | refine zS ?_ | refine zD ?_ | refine po_both ?_ ?_ | refine pwt_both ?_ ?_ | refine pwt_fork ?_ | refine pwt_lin ?_ | (refine po_test rfl rfl rfl rfl zB ?_ ?_ <;> intro hb <;> first | exact zX | refine zDn ?_) | refine zq5 ?_ | refine zq6 ?_ | (refine zT ?_ ?_ <;> intro h <;> first | exact zX | refine zNq ?_)))
  all_goals
   have hia' : i < a.length := by omega
   have hjb' : j < b.length := by omega
   have ga : a[i] = a.getD i default := by rw [List.getD, List.getElem?_eq_getElem hia']; rfl
   have gb : b[j] = b.getD j default := by rw [List.getD, List.getElem?_eq_getElem hjb']; rfl
   rw [isx_drop hia' hjb', ga, gb, isx1] at hr
  ·rw [if_pos h, ← List.append_assoc] at hr
   (refine pl_append (b := 8) hT hD rfl rfl rfl rfl rfl rfl rfl rfl (.inl (Nat.zero_lt_succ _)) rfl rfl (by simp; omega) (fun cap2 _ hcap => ?_); (refine zNp ?_))
   (repeat' (first | (refine zDr [[0,1,2,3,4,5,6,7,8,9,10,11,12,13,14,15,16,17,18,19,20,21,22,23]] ?_; refine zDn ?_) | (refine zDr [[0,1,2,3,4,5,6,7,8,9,10]] ?_; refine zDn ?_) | refine zS ?_ | refine zD ?_ | refine po_both ?_ ?_ | refine pwt_both ?_ ?_ | refine pwt_fork ?_ | refine pwt_lin ?_ | (refine po_test rfl rfl rfl rfl zB ?_ ?_ <;> intro hb <;> first | exact zX | refine zDn ?_) | refine zq5 ?_ | refine zq6 ?_ | (refine zT ?_ ?_ <;> intro h <;> first | exact zX | refine zNq ?_)))
   ·rw [if_pos (by assumption)] at hr
    refine ⟨(i + 1, j, _, cap2), ⟨hr, hia', hj, by simp; omega⟩, by dsimp only; omega, ?_, ?_⟩
    all_goals simp only [List.map_append, List.length_append, List.map_cons, List.map_nil]
    ·(exact zLe)
    ·(exact zLes)
   ·rw [if_neg (by assumption)] at hr
    refine ⟨(i, j + 1, _, cap2), ⟨hr, hi, hjb', by simp; omega⟩, by dsimp only; omega, ?_, ?_⟩
    all_goals simp only [List.map_append, List.length_append, List.map_cons, List.map_nil]
    ·(exact zLe)
    ·(exact zLes)
  ·rw [if_neg (show ¬ _ from by assumption), if_pos h, List.nil_append] at hr
   exact ⟨(i + 1, j, o, cap), ⟨hr, hia', hj, by dsimp only; omega⟩, by dsimp only; omega, zLe, zLes⟩
  ·rw [if_neg (show ¬ _ from by assumption), if_neg h, List.nil_append] at hr
   exact ⟨(i, j + 1, o, cap), ⟨hr, hi, hjb', by dsimp only; omega⟩, by dsimp only; omega, zLe, zLes⟩
 ·have he : isx (a.drop i) (b.drop j) = [] := by
   by_cases hia' : i < a.length
   ·rw [List.drop_eq_nil_of_le (show b.length ≤ j by omega), isx_nil_right]
   ·rw [List.drop_eq_nil_of_le (show a.length ≤ i by omega), isx_nil_left]
  rw [he, List.append_nil] at hr
  rw [← hr]
  exact ret0 _ (.sl (o.map eRng)) rfl rfl (.inr (.inr (.inr (.inl ⟨_, _, _, _, _, _, rfl, rfl, rfl, rfl, rfl⟩)))) rfl
end Go.Proofs.YtkaobkjcjodffaaGreatDoor
namespace Go.Pw
open Go
section
variable {P : Program} {Gl : Glob} {B : Base} {tys : List TI} {env : List PV} {o : Oper}
theorem v_idxarr {t : TypeId} {x y : Operand} {cs : List PV} {k : IntKind} {i : Int} {p : PV} {n e s z1 z2 z4 : Nat} {z3 z5 : Option (List PV)} (hT : Tys P tys) (ho : o.op = .index t x y) (ht : tys[t]? = some ⟨.arr n e s, z1, z2, z3⟩) (hE : tys[e]? = some ⟨.str, 1, z4, z5⟩)
  (hx : pe env x = .agg cs) (hy : pe env y = .int k i) (h0 : 0 ≤ i) (h1 : i < n) (hp : cs[i.toNat]? = some p) : OpV P Gl B o env p := fun _ A w β tmps _ he => by
 obtain ⟨ti, d, hi1, hu, htk, _⟩ := tyOf_spec (hT _ _ ht)
 obtain ⟨rfl, hse⟩ := tkOf_arr htk
 obtain ⟨te, de, he1, heu, hek, hes, _⟩ := tyOf_spec (hT _ _ hE)
 have := tkOf_str hek
 subst this
 have hsz : szOf P e = some 1 := by simp only [szOf, he1, Option.map_some]; exact congrArg some hes.symm
 have hd := he.eval [] x
 rw [hx] at hd
 obtain ⟨vs, hv, hl, hvs⟩ := hd.agg_inv
 obtain ⟨v, hr, hden⟩ := run_part (P := P) (A := A) (w := w) (β := β) cs vs (Nat.le_of_eq hl) hvs heu hsz (off := i.toNat * 1) (x := p) (by simp [part?, aggD, hp])
 refine ⟨v, ?_, hden⟩
 have hc : 0 ≤ i ∧ i < ((n : Nat) : Int) := ⟨h0, h1⟩
 simp only [execOp, ho, int_of he hy, hv, Instr.index, asIntOf, Sem.run_bind, Sem.run_pure, Result.andThen_ok, run_underlying hu, if_pos hc, run_size hsz]
 rw [hr]; rfl
end
end Go.Pw
namespace Go.Proofs.YtkaobkjcjodffaaGreatDoor
open Go Go.Pw
variable {Gl : Glob}
attribute [local irreducible] PW PWL OpP PCalls PWO PWT bothT
def wItem (d : Nat) (r : TRng) : List Str := [dayNames.getD d [], timeS (r.lo - d * 1440) ++ [45] ++ timeS (r.hi - d * 1440 + 1)]
def wPut (d : Nat) (out : List Str) (r : TRng) : List Str := (if 0 < out.length then out ++ [[44]] else out) ++ wItem d r
def dayAll (d : Nat) : TRng := ⟨d * 1440, d * 1440 + 1440 - 1⟩
def wDay (l : List TRng) (d : Nat) : List TRng := isect l [dayAll d]
def wDays (l : List TRng) (n : Nat) : List Str := (List.range n).foldl (fun out d => (wDay l d).foldl (wPut d) out) []
def wFormat (l : List TRng) : List Str := if ivalid l 10079 = true then (if l = [] then [[110, 101, 118, 101, 114]] else wDays l 7) else []
theorem wDays_succ (l : List TRng) (n : Nat) : wDays l (n + 1) = (wDay l n).foldl (wPut n) (wDays l n) := by
 unfold wDays; rw [List.range_succ, List.foldl_append]; rfl
theorem isx_len : ∀ (n : Nat) (a b : List TRng), a.length + b.length ≤ n → (isx a b).length ≤ a.length + b.length := by
 intro n
 induction n with
 | zero =>
  intro a b h
  have : a = [] := List.length_eq_zero_iff.1 (by omega)
  subst this
  rw [isx_nil_left]; exact Nat.zero_le _
 | succ n ih =>
  intro a b h
  match a, b, h with
  | [], b, _ => rw [isx_nil_left]; exact Nat.zero_le _
  | r :: a, [], _ => rw [isx_nil_right]; exact Nat.zero_le _
  | r :: a, s :: b, h =>
   rw [isx_cons, List.length_append]
   have h1 : (isx1 r s).length ≤ 1 := by unfold isx1; split <;> simp
   have i1 := ih a (s :: b) (by simp only [List.length_cons] at h ⊢; omega)
   have i2 := ih (r :: a) b (by simp only [List.length_cons] at h ⊢; omega)
   simp only [List.length_cons] at i1 i2 ⊢
   split <;> omega
theorem dayAll_can (d : Nat) : Can [dayAll d] := .one (by show (d : Int) * 1440 ≤ d * 1440 + 1440 - 1; omega)
theorem wDay_len {l : List TRng} (h : Can l) (d : Nat) : (wDay l d).length ≤ l.length + 1 := by
 unfold wDay; rw [← isx_eq h (dayAll_can d)]; exact isx_len _ _ _ (Nat.le_refl _)
theorem wDay_in (l : List TRng) (d : Nat) : ∀ r ∈ wDay l d, (d : Int) * 1440 ≤ r.lo ∧ r.lo ≤ r.hi ∧ r.hi < d * 1440 + 1440 := by
 intro r hr
 have hc : Can (wDay l d) := (canon_ok _).1
 have hle := hc.le r hr
 have h1 := ((isect_mem l [dayAll d] r.lo).1 ⟨r, hr, Int.le_refl _, hle⟩).2
 have h2 := ((isect_mem l [dayAll d] r.hi).1 ⟨r, hr, hle, Int.le_refl _⟩).2
 obtain ⟨x, hx, h1⟩ := h1
 obtain ⟨y, hy, h2⟩ := h2
 rw [List.mem_singleton] at hx hy
 subst hx hy
 simp only [dayAll] at h1 h2
 omega
theorem wPut_len (d : Nat) (o : List Str) (r : TRng) : (wPut d o r).length ≤ o.length + 3 := by
 unfold wPut wItem
 rw [List.length_append]
 split <;> simp
theorem wPuts_len (d : Nat) : ∀ (xs : List TRng) (o : List Str), (xs.foldl (wPut d) o).length ≤ o.length + 3 * xs.length
 | [], o => by simp
 | x :: xs, o => by
  have := wPuts_len d xs (wPut d o x)
  have := wPut_len d o x
  simp only [List.foldl_cons, List.length_cons]
  omega
theorem wDays_len {l : List TRng} (h : Can l) : ∀ n : Nat, n ≤ 7 → (wDays l n).length ≤ 3 * n * (l.length + 1)
 | 0, _ => Nat.zero_le _
 | n + 1, hn => by
  have h1 := wDays_len h n (by omega)
  have h2 := wPuts_len n (wDay l n) (wDays l n)
  have h3 := wDay_len h n
  rw [wDays_succ]
  have e : 3 * (n + 1) * (l.length + 1) = 3 * n * (l.length + 1) + 3 * (l.length + 1) := by rw [Nat.mul_add 3 n 1, Nat.add_mul]
  rw [e]
  omega
theorem c_wFormat (hD' : GD Gl) (l : List TRng) (hl : l.length < 100000) (hin : ∀ r ∈ l, RIn r) : PFun Tryz.prog Gl 109 [.sl (l.map eRng)] fun r => r = .sl ((wFormat l).map .str) := by
 (refine PFun.of hT Tryz.func109 rfl fun B hD => ?_; refine pw_norm rfl ?_)
 have hv := c_valid (Gl := Gl) l 10079 (by omega) ⟨by omega, by omega⟩ hin
 unfold wFormat
 have hci := @can_ivalid l 10079
 generalize ivalid l 10079 = iv at hv hci ⊢
 (repeat' (first | refine zS ?_ | (refine zT ?_ ?_ <;> intro h <;> first | exact zX | refine zNq ?_)))
 (refine pl_op rfl (op_fun (hv) rfl rfl e149 zLe rfl (fun r hr => ?_)); subst hr; refine ⟨rfl, ?_⟩; (refine zNp ?_))
 (repeat' (first | refine zS ?_ | (refine zT ?_ ?_ <;> intro h <;> first | exact zX | refine zNq ?_)))
 ·have e : iv = false := by simpa using h
  rw [e]
  exact ret0 _ (.sl []) rfl rfl (.inr (.inr (.inl ⟨rfl, rfl⟩))) rfl
 ·have e : iv = true := by rename_i hh; simpa using hh
  have el : l = [] := List.length_eq_zero_iff.1 (by omega)
  rw [e, if_pos rfl, if_pos el]
  exact ret1 _ rfl rfl rfl
 have e : iv = true := by rename_i hh; simpa using hh
 have el : l ≠ [] := by rintro rfl; exact h rfl
 rw [if_pos e, if_neg el]
 obtain ⟨hcan, htop⟩ := hci e
 subst e
 clear hci hv
 (refine pl_op rfl (op_of (v_gload hT rfl rfl rfl hD' rfl) ?_); (refine zNp ?_))
 (repeat' (first | refine zS ?_ | (refine zT ?_ ?_ <;> intro h <;> first | exact zX | refine zNq ?_)))
 refine pw_ghost 1 ?_
 refine zNq ?_
 refine pw_for hD (fun a : Nat × Nat => [(3, .msl 1 0 0 ((wDays l a.1).map PV.str).length a.2), (17, .int .i64 a.1)]) (fun a => [.arr 1 ((wDays l a.1).map PV.str) a.2]) (fun a => a.1 ≤ 7) (fun a => 7 - a.1) (0, 0) (Nat.zero_le _) 1 rfl (fun _ => rfl) zLes (fun _ => rfl) (fun _ => rfl) zLe ?_
 rintro ⟨d, cap⟩ hd
 dsimp only at hd ⊢
 (repeat' (first | refine zS ?_ | (refine zT ?_ ?_ <;> intro h <;> first | exact zX | refine zNq ?_)))
 ·(refine pl_op rfl (op_of (v_idxarr (p := .str (dayNames.getD d [])) hT rfl rfl rfl rfl rfl (by omega) (by omega) (by rw [List.getElem?_map, List.getElem?_eq_getElem (show (d : Int).toNat < 7 by omega), List.getD, List.getElem?_eq_getElem (show d < 7 by omega)]; rfl)) ?_); (refine zNp ?_))
  have hz := dayAll_can d
  have ci := c_isect (Gl := Gl) l [dayAll d] (by omega) (by simp) hcan hz hin (fun r hr => by rw [List.mem_singleton] at hr; subst hr; unfold RIn dayAll; dsimp only; omega) el (by simp)
  have hwl := wDay_len hcan d
  have hwi := wDay_in l d
  have hdl := wDays_len hcan d hd
  have hdl2 : (wDays l d).length ≤ 21 * (l.length + 1) := Nat.le_trans hdl (Nat.mul_le_mul_right _ (by omega))
  have hsu := wDays_succ l d
  change PFun _ _ _ _ fun r => r = .sl ((wDay l d).map eRng) at ci
  generalize wDay l d = W at ci hwl hwi hsu
  (repeat' (first | refine zS ?_ | (refine zT ?_ ?_ <;> intro h <;> first | exact zX | refine zNq ?_)))
  (refine pl_op rfl (op_fun (ci) rfl rfl e150 zLe rfl (fun r hr => ?_)); subst hr; refine ⟨rfl, ?_⟩; (refine zNp ?_))
  (repeat' (first | refine zS ?_ | (refine zT ?_ ?_ <;> intro h <;> first | exact zX | refine zNq ?_)))
  have hfl : ∀ k, (((W.take k).foldl (wPut d) (wDays l d))).length ≤ 24 * (l.length + 1) := fun k => by
   have h1 := wPuts_len d (W.take k) (wDays l d)
   have h2 : (W.take k).length ≤ W.length := by rw [List.length_take]; omega
   omega
  have hfs : ∀ k, k < W.length → (W.take (k + 1)).foldl (wPut d) (wDays l d) = wPut d ((W.take k).foldl (wPut d) (wDays l d)) (W.getD k default) := fun k hk => by
   rw [List.take_succ_eq_append_getElem hk, List.foldl_append, List.getD, List.getElem?_eq_getElem hk]; rfl
  refine pw_for hD (fun a : Nat × Nat => [(3, .msl 1 0 0 ((((W.take a.1).foldl (wPut d) (wDays l d))).map PV.str).length a.2), (35, .int .i64 a.1)]) (fun a => [.arr 1 ((((W.take a.1).foldl (wPut d) (wDays l d))).map PV.str) a.2, .box [.int .u32 ((d : Int) * 1440), .int .u32 ((d : Int) * 1440 + 1440 - 1)]])
   (fun a => a.1 ≤ W.length) (fun a => W.length - a.1) (0, cap) (Nat.zero_le _) 2 rfl (fun _ => rfl) zLes (fun _ => rfl) (fun _ => rfl) zLe ?_
  rintro ⟨k, cap1⟩ hk
  dsimp only at hk ⊢
  have hF := hfl k
  have hF2 := hfs k
  have hwk : k < W.length → (d : Int) * 1440 ≤ (W.getD k default).lo ∧ (W.getD k default).lo ≤ (W.getD k default).hi ∧ (W.getD k default).hi < d * 1440 + 1440 := fun h => by rw [List.getD, List.getElem?_eq_getElem h]; exact hwi _ (List.getElem_mem h)
  generalize ho : (W.take k).foldl (wPut d) (wDays l d) = o at hF hF2 ⊢
  have htl1 : (timeS ((W.getD k default).lo - (d : Int) * 1440)).length = 5 := rfl
  have htl2 : (timeS ((W.getD k default).hi - (d : Int) * 1440 + 1)).length = 5 := rfl
  (repeat' (first | refine zS ?_ | (refine zT ?_ ?_ <;> intro h <;> first | exact zX | refine zNq ?_)))
  ·(refine pl_append (b := 16) hT hD rfl rfl rfl rfl rfl rfl rfl rfl (.inl (Nat.zero_lt_succ _)) rfl rfl (by simp; omega) (fun cap2 _ hcap => ?_); (refine zNp ?_))
   have hc : wPut d o (W.getD k default) = (o ++ [[44]]) ++ wItem d (W.getD k default) := by unfold wPut; rw [if_pos (by omega)]
   (repeat' (first | (refine zDr [[0,1,2,3,4,5,6,7,10,11,12,13,14,15,16],[8],[9],[17],[18,19],[20],[21]] ?_; refine zDn ?_) | refine zS ?_ | refine zD ?_ | refine po_both ?_ ?_ | refine pwt_both ?_ ?_ | refine pwt_fork ?_ | refine pwt_lin ?_ | (refine po_test rfl rfl rfl rfl zB ?_ ?_ <;> intro hb <;> first | exact zX | refine zDn ?_) | (refine zT ?_ ?_ <;> intro h <;> first | exact zX | refine zNq ?_)))
   (refine po_step rfl rfl (op_append (b := 16) hT rfl rfl rfl rfl (by simp) rfl (.inl (Nat.zero_lt_succ _)) rfl rfl (by simp <;> omega) (fun cap3 _ hcap => ⟨zLok, ?_⟩)); refine zDn ?_)
   refine zD ?_
   (refine pw_mv 0 3 hD rfl rfl rfl rfl rfl ?_; refine pw_norm rfl ?_)
   (refine pw_trim 3 hD rfl rfl ?_; refine pw_norm rfl ?_)
   (repeat' (first | (refine zDr [[0,1,2,3,4,5,6,7,10,11,12,13,14,15,16],[8],[9],[17],[18,19],[20],[21]] ?_; refine zDn ?_) | refine zS ?_ | refine zD ?_ | refine po_both ?_ ?_ | refine pwt_both ?_ ?_ | refine pwt_fork ?_ | refine pwt_lin ?_ | (refine po_test rfl rfl rfl rfl zB ?_ ?_ <;> intro hb <;> first | exact zX | refine zDn ?_) | (refine zT ?_ ?_ <;> intro h <;> first | exact zX | refine zNq ?_)))
   have hkl : k < W.length := by omega
   refine ⟨(k + 1, cap3), hkl, by dsimp only; omega, ?_, ?_⟩
   all_goals simp only [hF2 hkl, hc, wItem, List.map_append, List.length_append, List.map_cons, List.map_nil]
   ·(exact zLe)
   ·(exact zLes)
  ·have hc : wPut d o (W.getD k default) = o ++ wItem d (W.getD k default) := by unfold wPut; rw [if_neg (by omega)]
   (repeat' (first | (refine zDr [[0,1,2,3,4,5,6,7,10,11,12,13,14,15,16],[8],[9],[17],[18,19],[20],[21]] ?_; refine zDn ?_) | refine zS ?_ | refine zD ?_ | refine po_both ?_ ?_ | refine pwt_both ?_ ?_ | refine pwt_fork ?_ | refine pwt_lin ?_ | (refine po_test rfl rfl rfl rfl zB ?_ ?_ <;> intro hb <;> first | exact zX | refine zDn ?_) | (refine zT ?_ ?_ <;> intro h <;> first | exact zX | refine zNq ?_)))
   (refine po_step rfl rfl (op_append (b := 16) hT rfl rfl rfl rfl rfl rfl (.inl (Nat.zero_lt_succ _)) rfl rfl (by simp <;> omega) (fun cap3 _ hcap => ⟨zLok, ?_⟩)); refine zDn ?_)
   refine zD ?_
   (refine pw_mv 0 3 hD rfl rfl rfl rfl rfl ?_; refine pw_norm rfl ?_)
   (refine pw_trim 3 hD rfl rfl ?_; refine pw_norm rfl ?_)
   (repeat' (first | (refine zDr [[0,1,2,3,4,5,6,7,10,11,12,13,14,15,16],[8],[9],[17],[18,19],[20],[21]] ?_; refine zDn ?_) | refine zS ?_ | refine zD ?_ | refine po_both ?_ ?_ | refine pwt_both ?_ ?_ | refine pwt_fork ?_ | refine pwt_lin ?_ | (refine po_test rfl rfl rfl rfl zB ?_ ?_ <;> intro hb <;> first | exact zX | refine zDn ?_) | (refine zT ?_ ?_ <;> intro h <;> first | exact zX | refine zNq ?_)))
   have hkl : k < W.length := by omega
   refine ⟨(k + 1, cap3), hkl, by dsimp only; omega, ?_, ?_⟩
   all_goals simp only [hF2 hkl, hc, wItem, List.map_append, List.length_append, List.map_cons, List.map_nil]
   ·(exact zLe)
   ·(exact zLes)
  ·have hkl : k = W.length := by omega
   rw [hkl, List.take_length, ← hsu] at ho
   subst ho
   exact ⟨(d + 1, cap1), by dsimp only; omega, by dsimp only; omega, zLe, zLes⟩
 have : d = 7 := by omega
 subst this
 exact ret0 _ (.sl ((wDays l 7).map PV.str)) rfl rfl (.inr (.inr (.inr (.inl ⟨_, _, _, _, _, _, rfl, rfl, rfl, rfl, rfl⟩)))) rfl
end Go.Proofs.YtkaobkjcjodffaaGreatDoor
