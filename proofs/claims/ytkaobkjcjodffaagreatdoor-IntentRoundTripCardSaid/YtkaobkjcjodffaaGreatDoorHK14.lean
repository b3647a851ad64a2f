/-
 Contracts of functions, walked over pure values.
-/
import Derived.Test.YtkaobkjcjodffaaGreatDoorHK12
import Derived.Test.YtkaobkjcjodffaaGreatDoorGPwApX
import Derived.Test.YtkaobkjcjodffaaGreatDoorHK4
import Derived.Test.YtkaobkjcjodffaaGreatDoorHM0
import Derived.Test.YtkaobkjcjodffaaGreatDoorGPwBox
set_option maxHeartbeats 20000000
set_option maxRecDepth 100000
namespace Go.Proofs.YtkaobkjcjodffaaGreatDoor
open Go Go.Pw
section
variable {Gl : Glob}
attribute [local irreducible] PW PWL OpP PCalls PWO formB vname digitsB addr portsT number PWT bothT
theorem op_proto {B : Base} {env : List PV} {st : List PObj} {o : Oper} {K : PV → List PObj → Prop} {m x : Operand} {i : Nat} {s : Str} (ho : o.op = .lookup 155 m x false) (hm : pe env m = .map i) (hx : pe env x = .str s)
  (hst : st[i]? = some (.map [([116, 99, 112], .int .i64 6), ([117, 100, 112], .int .i64 17)])) (hK : K (.int .i64 (protoOf s)) st) : OpP Tryz.prog Gl B o env st K := by
 unfold protoOf at hK
 by_cases h1 : s = [116, 99, 112]
 ·rw [if_pos h1] at hK
  exact op_lookV (j := 0) hT ho rfl rfl hm hx hst (by rw [h1]; rfl) rfl hK
 ·rw [if_neg h1] at hK
  by_cases h2 : s = [117, 100, 112]
  ·rw [if_pos h2] at hK
   exact op_lookV (j := 1) hT ho rfl rfl hm hx hst (by rw [h2]; rfl) (by rw [h2]; rfl) hK
  ·rw [if_neg h2] at hK
   exact op_lookV0 hT ho rfl rfl (show (Tryz.prog.info? 3).bind (·.zero) = some (.int .i64 0) by kernel_rfl) hm hx hst (by
    have q1 : ([116, 99, 112] == s) = false := by rw [beq_eq_false_iff_ne]; exact fun e => h1 e.symm
    have q2 : ([117, 100, 112] == s) = false := by rw [beq_eq_false_iff_ne]; exact fun e => h2 e.symm
    rw [List.all_cons, List.all_cons, q1, q2]; rfl) hK
theorem c_publish (_hG : GM Gl) (i : TInt) (hi : i.pubs.length ≤ 16) (c : ICaps) (w : List Str) (hw : WOk w) (_hl : w.length ≤ 1000) : PCalls Tryz.prog Gl 49 [.ptr 0 0, .sl (w.map .str)] (ist i c) fun r s => ∃ c', r = .int .i64 (pPub i.pubs w).1 ∧ s = ist { i with pubs := (pPub i.pubs w).2 } c' := by
 refine PCalls.of hT Tryz.func49 rfl 7 (Nat.le_refl _) fun B hD => ?_
 unfold ist
 refine pw_norm rfl ?_
 have hlg : (i.pubs.map ePub).length = i.pubs.length := List.length_map ..
 have hw1 := hw.at 1
 have hw2 := hw.at 2
 have hw3 := hw.at 3
 have hw5 := hw.at 5
 have hw7 := hw.at 7
 have hw8 := hw.at 8
 by_cases hf : formB w pubF = true
 case neg =>
  haveI : ConF Tryz.prog Gl 103 [.sl (w.map .str), .sl [.str [112, 117, 98, 108, 105, 115, 104], .str [65, 68, 68, 82, 69, 83, 83], .str [80, 82, 79, 84, 79, 67, 79, 76], .str [78], .str [97, 116], .str [78, 65, 77, 69], .str [116, 111], .str [65, 68, 68, 82, 69, 83, 83], .str [78]]] True (.bool false) := ⟨e103, fun _ => by have := c_formI (Gl := Gl) w pubF hw.len (by decide); rwa [show formB w pubF = false by simpa using hf] at this⟩
  (repeat' (first | (refine zDr [[0,1,2,3,4,5,6,7,8,9,10,11,12,13,14],[15],[16,17],[18]] ?_; refine zDn ?_) | refine zS ?_ | refine zD ?_ | refine po_both ?_ ?_ | refine pwt_both ?_ ?_ | refine pwt_fork ?_ | refine pwt_lin ?_ | (refine po_test rfl rfl rfl rfl zB ?_ ?_ <;> intro hb <;> first | exact zX | refine zDn ?_) | refine zq5 ?_ | refine zq6 ?_ | (refine zT ?_ ?_ <;> intro h <;> first | exact zX | refine zNq ?_)))
  rw [show pPub i.pubs w = (4, i.pubs) from by unfold pPub; rw [if_pos (.inl (.inl (.inl hf)))]]
  exact ⟨_, _, _, rfl, ⟨c, rfl, rfl⟩, .inr (.inl rfl), zF, rfl, rfl⟩
 have hlen : w.length = 9 := form_len hf
 haveI : ConF Tryz.prog Gl 103 [.sl (w.map .str), .sl [.str [112, 117, 98, 108, 105, 115, 104], .str [65, 68, 68, 82, 69, 83, 83], .str [80, 82, 79, 84, 79, 67, 79, 76], .str [78], .str [97, 116], .str [78, 65, 77, 69], .str [116, 111], .str [65, 68, 68, 82, 69, 83, 83], .str [78]]] True (.bool true) := ⟨e103, fun _ => by have := c_formI (Gl := Gl) w pubF hw.len (by decide); rwa [hf] at this⟩
 (repeat' (first | (refine zDr [[0,1,2,3,4,5,6,7,8,9,10,11,12,13,14],[15],[16,17],[18]] ?_; refine zDn ?_) | refine zS ?_ | refine zD ?_ | refine po_both ?_ ?_ | refine pwt_both ?_ ?_ | refine pwt_fork ?_ | refine pwt_lin ?_ | (refine po_test rfl rfl rfl rfl zB ?_ ?_ <;> intro hb <;> first | exact zX | refine zDn ?_) | refine zq5 ?_ | refine zq6 ?_ | (refine zT ?_ ?_ <;> intro h <;> first | exact zX | refine zNq ?_)))
 ·rw [show pPub i.pubs w = (4, i.pubs) from by unfold pPub; rw [if_pos (by rcases h with (h | h) | h; exact .inl (.inl (.inr h)); exact .inl (.inr h); exact .inr h)]]
  exact ⟨_, _, _, rfl, ⟨c, rfl, rfl⟩, .inr (.inl rfl), zF, rfl, rfl⟩
 have hp : pPub i.pubs w = if (protoOf (w.getD 2 []) = 0 ∨ ¬ (addr (w.getD 1 [])).2 = true) ∨ ¬ (addr (w.getD 7 [])).2 = true then (4, i.pubs) else
   if ¬ (number (w.getD 3 []) 0 65535).2 = true ∨ ¬ (number (w.getD 8 []) 0 65535).2 = true then (2, i.pubs) else
   if 16 ≤ i.pubs.length then (3, i.pubs) else (0, i.pubs ++ [⟨(addr (w.getD 1 [])).1, protoOf (w.getD 2 []), (number (w.getD 3 []) 0 65535).1, w.getD 5 [], (addr (w.getD 7 [])).1, (number (w.getD 8 []) 0 65535).1⟩]) := by
  unfold pPub
  rw [if_neg (by rintro (((q | q) | q) | q); exact q hf; exact h (.inl (.inl q)); exact h (.inl (.inr q)); exact h (.inr q))]
 rw [hp]
 clear hp
 (refine pl_op rfl (op_mkmap rfl ?_); (refine zNp ?_))
 (refine pl_op rfl (op_insert hT rfl rfl rfl rfl rfl rfl rfl rfl ?_); (refine zNp ?_))
 (refine pl_op rfl (op_insert hT rfl rfl rfl rfl rfl rfl rfl rfl ?_); (refine zNp ?_))
 (repeat' (first | refine zS ?_ | refine zq5 ?_ | refine zq6 ?_ | (refine zT ?_ ?_ <;> intro h <;> first | exact zX | refine zNq ?_)))
 refine pl_op rfl (op_proto rfl rfl rfl rfl ?_)
 refine zNp ?_
 (repeat' (first | (refine zDr [[0,1,2,3,4,5,6,7,8,9,10,11,12,13,14],[15],[16,17],[18]] ?_; refine zDn ?_) | refine zS ?_ | refine zD ?_ | refine po_both ?_ ?_ | refine pwt_both ?_ ?_ | refine pwt_fork ?_ | refine pwt_lin ?_ | (refine po_test rfl rfl rfl rfl zB ?_ ?_ <;> intro hb <;> first | exact zX | refine zDn ?_) | refine zq5 ?_ | refine zq6 ?_ | (refine zT ?_ ?_ <;> intro h <;> first | exact zX | refine zNq ?_)))
 ·rw [if_pos h]
  exact ⟨_, _, _, rfl, ⟨c, rfl, rfl⟩, .inr (.inl rfl), zF, rfl, rfl⟩
 ·rename_i g1
  rw [if_neg g1, if_pos h]
  exact ⟨_, _, _, rfl, ⟨c, rfl, rfl⟩, .inr (.inl rfl), zF, rfl, rfl⟩
 ·rename_i g1 g2
  rw [if_neg g1, if_neg g2, if_pos (by omega)]
  exact ⟨_, _, _, rfl, ⟨c, rfl, rfl⟩, .inr (.inl rfl), zF, rfl, rfl⟩
 rename_i g1 g2
 rw [if_neg g1, if_neg g2, if_neg (by omega)]
 (refine po_step rfl rfl (op_append (b := 56) hT rfl rfl rfl rfl rfl rfl (.inl (Nat.zero_lt_succ _)) rfl rfl (by simp; omega) (fun cap' _ hcap => ⟨zLok, ?_⟩)); refine zDn ?_)
 refine zD ?_
 (refine pw_mv 5 8 hD rfl rfl rfl rfl rfl ?_; refine pw_norm rfl ?_)
 (repeat' (first | refine zS ?_ | refine zq5 ?_ | refine zq6 ?_ | (refine zT ?_ ?_ <;> intro h <;> first | exact zX | refine zNq ?_)))
 refine ⟨_, _, _, rfl, ⟨(c.1, c.2.1, c.2.2.1, c.2.2.2.1, cap', c.2.2.2.2.2), rfl, rfl⟩, .inr (.inl rfl), ?_, rfl, rfl⟩
 simp only [List.map_append, List.length_append]
 exact zF
theorem c_hide (hG : GM Gl) (i : TInt) (hi : i.hids.length ≤ 8) (c : ICaps) (w : List Str) (hw : WOk w) (_hl : w.length ≤ 1000) : PCalls Tryz.prog Gl 50 [.ptr 0 0, .sl (w.map .str)] (ist i c) fun r s => ∃ c', r = .int .i64 (pHid i.hids w).1 ∧ s = ist { i with hids := (pHid i.hids w).2 } c' := by
 refine PCalls.of hT Tryz.func50 rfl 7 (Nat.le_refl _) fun B hD => ?_
 unfold ist
 refine pw_norm rfl ?_
 have hlg : (i.hids.map eHid).length = i.hids.length := List.length_map ..
 have hw1 := hw.at 1
 have hw3 := hw.at 3
 have hw5 := hw.at 5
 have hw7 := hw.at 7
 by_cases hf : formB w hidF = true
 case neg =>
  haveI : ConF Tryz.prog Gl 103 [.sl (w.map .str), .sl [.str [104, 105, 100, 101], .str [78, 65, 77, 69], .str [97, 116], .str [78, 65, 77, 69], .str [98, 101, 104, 105, 110, 100], .str [65, 68, 68, 82, 69, 83, 83], .str [112, 111, 114, 116, 115], .str [80, 79, 82, 84, 83]]] True (.bool false) := ⟨e103, fun _ => by have := c_formI (Gl := Gl) w hidF hw.len (by decide); rwa [show formB w hidF = false by simpa using hf] at this⟩
  (repeat' (first | (refine zDr [[0,1,2,3,4,5,6,7,8,9,10,11,12,13,14],[15],[16,17],[18]] ?_; refine zDn ?_) | refine zS ?_ | refine zD ?_ | refine po_both ?_ ?_ | refine pwt_both ?_ ?_ | refine pwt_fork ?_ | refine pwt_lin ?_ | (refine po_test rfl rfl rfl rfl zB ?_ ?_ <;> intro hb <;> first | exact zX | refine zDn ?_) | refine zq5 ?_ | refine zq6 ?_ | (refine zT ?_ ?_ <;> intro h <;> first | exact zX | refine zNq ?_)))
  rw [show pHid i.hids w = (4, i.hids) from by unfold pHid; rw [if_pos (.inl (.inl hf))]]
  exact ⟨_, _, _, rfl, ⟨c, rfl, rfl⟩, .inr (.inl rfl), zF, rfl, rfl⟩
 have hlen : w.length = 8 := form_len hf
 haveI : ConF Tryz.prog Gl 103 [.sl (w.map .str), .sl [.str [104, 105, 100, 101], .str [78, 65, 77, 69], .str [97, 116], .str [78, 65, 77, 69], .str [98, 101, 104, 105, 110, 100], .str [65, 68, 68, 82, 69, 83, 83], .str [112, 111, 114, 116, 115], .str [80, 79, 82, 84, 83]]] True (.bool true) := ⟨e103, fun _ => by have := c_formI (Gl := Gl) w hidF hw.len (by decide); rwa [hf] at this⟩
 have hp : ¬ (¬ vname (w.getD 1 []) = true ∨ ¬ vname (w.getD 3 []) = true) → pHid i.hids w = if ¬ (addr (w.getD 5 [])).2 = true ∨ ¬ (portsT (w.getD 7 [])).2 = true then (4, i.hids) else
   if (portsT (w.getD 7 [])).1.lo < 1024 then (2, i.hids) else
   if 8 ≤ i.hids.length then (3, i.hids) else (0, i.hids ++ [⟨w.getD 1 [], w.getD 3 [], (addr (w.getD 5 [])).1, (portsT (w.getD 7 [])).1⟩]) := fun g => by
  unfold pHid
  rw [if_neg (by rintro ((q | q) | q); exact q hf; exact g (.inl q); exact g (.inr q))]
 (repeat' (first | (refine zDr [[0,1,2,3,4,5,6,7,8,9,10,11,12,13,14],[15],[16,17],[18]] ?_; refine zDn ?_) | refine zS ?_ | refine zD ?_ | refine po_both ?_ ?_ | refine pwt_both ?_ ?_ | refine pwt_fork ?_ | refine pwt_lin ?_ | (refine po_test rfl rfl rfl rfl zB ?_ ?_ <;> intro hb <;> first | exact zX | refine zDn ?_) | refine zq5 ?_ | refine zq6 ?_ | (refine zT ?_ ?_ <;> intro h <;> first | exact zX | refine zNq ?_)))
 ·rw [show pHid i.hids w = (4, i.hids) from by unfold pHid; rw [if_pos (by rcases h with h | h; exact .inl (.inr h); exact .inr h)]]
  exact ⟨_, _, _, rfl, ⟨c, rfl, rfl⟩, .inr (.inl rfl), zF, rfl, rfl⟩
 all_goals rw [hp (by assumption)]
 ·rw [if_pos h]
  exact ⟨_, _, _, rfl, ⟨c, rfl, rfl⟩, .inr (.inl rfl), zF, rfl, rfl⟩
 ·rename_i g1
  rw [if_neg g1, if_pos h]
  exact ⟨_, _, _, rfl, ⟨c, rfl, rfl⟩, .inr (.inl rfl), zF, rfl, rfl⟩
 ·rename_i g1 g2
  rw [if_neg g1, if_neg g2, if_pos (by omega)]
  exact ⟨_, _, _, rfl, ⟨c, rfl, rfl⟩, .inr (.inl rfl), zF, rfl, rfl⟩
 rename_i g1 g2
 rw [if_neg g1, if_neg g2, if_neg (by omega)]
 (refine po_step rfl rfl (op_append (b := 48) hT rfl rfl rfl rfl rfl rfl (.inl (Nat.zero_lt_succ _)) rfl rfl (by simp; omega) (fun cap' _ hcap => ⟨zLok, ?_⟩)); refine zDn ?_)
 refine zD ?_
 (refine pw_mv 6 8 hD rfl rfl rfl rfl rfl ?_; refine pw_norm rfl ?_)
 (repeat' (first | refine zS ?_ | refine zq5 ?_ | refine zq6 ?_ | (refine zT ?_ ?_ <;> intro h <;> first | exact zX | refine zNq ?_)))
 refine ⟨_, _, _, rfl, ⟨(c.1, c.2.1, c.2.2.1, c.2.2.2.1, c.2.2.2.2.1, cap'), rfl, rfl⟩, .inr (.inl rfl), ?_, rfl, rfl⟩
 simp only [List.map_append, List.length_append]
 exact zF
end
section
variable {Gl : Glob}
attribute [local irreducible] PW PWL OpP PCalls PWO PWT bothT
def dayR (a : Int) (k : Nat) (from' to' : Int) : TRng := ⟨(a + k) * 1440 + from', (a + k) * 1440 + to' - 1⟩
def itemRs (d t : Str) : List TRng := (List.range (spanB d - spanA d + 1).toNat).map fun k => dayR (spanA d) k (timeA t) (timeB t)
def wRun : List Str → List TRng → Nat → Option (List TRng × Nat)
 | d :: t :: rest, out, n => if spanOk d = false ∨ timeOk t = false then none else match rest with
  | [] => some (out ++ itemRs d t, n + 1)
  | c :: rest' => if c = [44] then wRun rest' (out ++ itemRs d t) (n + 1) else none
 | _, _, _ => none
def wEnd : Option (List TRng × Nat) → List TRng × Int
 | none => ([], 4)
 | some (out, n) => if n > 16 then ([], 3) else (canon out, 0)
def wParse (ws : List Str) : List TRng × Int := if ws = [[110, 101, 118, 101, 114]] then ([], 0) else wEnd (wRun ws [] 0)
theorem span_facts (d : Str) (h : spanOk d = true) : 0 ≤ spanA d ∧ spanA d ≤ spanB d ∧ spanB d ≤ 6 := by
 have h1 := dayIx_range (Lib.cut d [45]).1
 have h2 := dayIx_range (if (Lib.cut d [45]).2.2 = true then (Lib.cut d [45]).2.1 else (Lib.cut d [45]).1)
 simp only [spanOk, Bool.and_eq_true, decide_eq_true_eq] at h
 unfold spanA spanB at *
 omega
theorem time_facts (t : Str) (h : timeOk t = true) : 0 ≤ timeA t ∧ timeA t < timeB t ∧ timeB t ≤ 1440 := by
 have h1 := clock_range (Lib.cut t [45]).1
 have h2 := clock_range (Lib.cut t [45]).2.1
 simp only [timeOk, Bool.and_eq_true, decide_eq_true_eq] at h
 unfold timeA timeB at *
 omega
theorem spanA_range (d : Str) : -1 ≤ spanA d ∧ spanA d ≤ 6 := dayIx_range _
theorem spanB_range (d : Str) : -1 ≤ spanB d ∧ spanB d ≤ 6 := dayIx_range _
theorem timeA_range (d : Str) : -1 ≤ timeA d ∧ timeA d ≤ 1440 := clock_range _
theorem timeB_range (d : Str) : -1 ≤ timeB d ∧ timeB d ≤ 1440 := clock_range _
theorem spanOk_iff (d : Str) : spanOk d = true ↔ spanA d ≥ 0 ∧ spanB d ≥ spanA d := by unfold spanOk; rw [Bool.and_eq_true, decide_eq_true_eq, decide_eq_true_eq]
theorem timeOk_iff (d : Str) : timeOk d = true ↔ timeA d ≥ 0 ∧ timeB d > timeA d := by unfold timeOk; rw [Bool.and_eq_true, decide_eq_true_eq, decide_eq_true_eq]
theorem itemRs_len (d t : Str) : (itemRs d t).length = (spanB d - spanA d + 1).toNat := by simp [itemRs]
theorem itemRs_take {d t : Str} {k : Nat} (h : k < (itemRs d t).length) : (itemRs d t).take (k + 1) = (itemRs d t).take k ++ [dayR (spanA d) k (timeA t) (timeB t)] := by
 rw [List.take_succ_eq_append_getElem h]
 congr 2
 simp [itemRs]
theorem itemRs_in {d t : Str} (h1 : spanOk d = true) (h2 : timeOk t = true) : ∀ r ∈ itemRs d t, RIn r ∧ r.lo ≤ r.hi := by
 intro r hr
 have f1 := span_facts d h1
 have f2 := time_facts t h2
 simp only [itemRs, List.mem_map, List.mem_range] at hr
 obtain ⟨k, hk, rfl⟩ := hr
 unfold RIn dayR
 dsimp only
 omega
theorem wRun_none {ws : List Str} {i : Nat} (h : ws.length ≤ i + 1) (out : List TRng) (n : Nat) : wRun (ws.drop i) out n = none := by
 have hl : (ws.drop i).length ≤ 1 := by rw [List.length_drop]; omega
 match ws.drop i, hl with
 | [], _ => rfl
 | [_], _ => rfl
theorem wRun_step {ws : List Str} {i : Nat} (h : i + 1 < ws.length) (out : List TRng) (n : Nat) : wRun (ws.drop i) out n = if spanOk (ws.getD i []) = false ∨ timeOk (ws.getD (i + 1) []) = false then none else if ws.length ≤ i + 2 then some (out ++ itemRs (ws.getD i []) (ws.getD (i + 1) []), n + 1) else if ws.getD (i + 2) [] = [44] then wRun (ws.drop (i + 3)) (out ++ itemRs (ws.getD i []) (ws.getD (i + 1) [])) (n + 1) else none := by
 have e1 : ws.drop i = ws.getD i [] :: ws.getD (i + 1) [] :: ws.drop (i + 2) := by
  rw [List.drop_eq_getElem_cons (by omega : i < ws.length), List.drop_eq_getElem_cons h]
  simp [List.getD, List.getElem?_eq_getElem h, List.getElem?_eq_getElem (by omega : i < ws.length)]
 rw [e1]
 by_cases h2 : ws.length ≤ i + 2
 ·rw [List.drop_eq_nil_of_le h2, if_pos h2]
  simp only [wRun]
 ·rw [if_neg h2, List.drop_eq_getElem_cons (by omega : i + 2 < ws.length)]
  simp only [wRun]
  rw [show ws.getD (i + 2) [] = ws[i + 2] from by simp [List.getD, List.getElem?_eq_getElem (by omega : i + 2 < ws.length)]]
theorem never_iff (ws : List Str) : ws = [[110, 101, 118, 101, 114]] ↔ (ws.length : Int) = 1 ∧ ws.getD 0 [] = [110, 101, 118, 101, 114] := by
 constructor
 ·rintro rfl; exact ⟨rfl, rfl⟩
 ·rintro ⟨h1, h2⟩
  match ws, h1, h2 with
  | [x], _, h2 => rw [show x = _ from h2]
  | [], h1, _ => cases h1
  | _ :: _ :: _, h1, _ => simp at h1; omega
theorem c_wParse (hG : GM Gl) (hD' : GD Gl) (ws : List Str) (hl : ws.length < 1000000) (hw : ∀ k, (ws.getD k []).length < 4294967281) : PFun Tryz.prog Gl 98 [.sl (ws.map .str)] fun r => r = .tup [.sl ((wParse ws).1.map eRng), .int .i64 (wParse ws).2] := by
 (refine PFun.of hT Tryz.func98 rfl fun B hD => ?_; refine pw_norm rfl ?_)
 have hnv := never_iff ws
 (repeat' (first | refine zS ?_ | refine zq5 ?_ | refine zq6 ?_ | (refine zT ?_ ?_ <;> intro h <;> first | exact zX | refine zNq ?_)))
 ·have hp : wParse ws = ([], 0) := by unfold wParse; rw [if_pos (hnv.2 h)]
  rw [hp]
  exact ret0 _ (.tup [.sl [], .int .i64 0]) rfl rfl (by (refine .inr (.inr (.inr (.inr (.inr ⟨_, _, rfl, rfl, ?_⟩)))); (repeat (first | exact True.intro | refine ⟨.inr (.inl rfl), ?_⟩ | refine ⟨.inr (.inr (.inl ⟨rfl, rfl⟩)), ?_⟩ | refine ⟨.inr (.inr (.inr (.inl ⟨_, _, _, _, _, _, rfl, rfl, rfl, rfl, rfl⟩))), ?_⟩ | refine ⟨.inr (.inr (.inr (.inr (.inl ⟨_, _, rfl, rfl, ?_⟩)))), ?_⟩)))) rfl
 have hp : wParse ws = wEnd (wRun ws [] 0) := by unfold wParse; rw [if_neg fun hh => h (hnv.1 hh)]
 rw [hp]
 clear hp h hnv
 refine pw_ghost 2 ?_
 refine zNq ?_
 refine pw_for hD (fun a : Nat × List TRng × Nat × Nat => [(4, .msl 2 0 0 (a.2.1.map eRng).length a.2.2.2), (5, .int .i64 a.2.2.1), (6, .int .i64 a.1)]) (fun a => [.arr 2 (a.2.1.map eRng) a.2.2.2])
  (fun a => wRun (ws.drop a.1) a.2.1 a.2.2.1 = wRun ws [] 0 ∧ (∀ r ∈ a.2.1, RIn r ∧ r.lo ≤ r.hi) ∧ a.2.1.length ≤ 7 * a.2.2.1 ∧ a.2.2.1 ≤ a.1 ∧ a.1 ≤ ws.length + 1) (fun a => ws.length + 3 - a.1) (0, [], 0, 0) ⟨rfl, by simp, by simp, Nat.le_refl _, by omega⟩ 1 rfl (fun _ => rfl) zLes (fun _ => rfl) (fun _ => rfl) zLe ?_
 rintro ⟨i, out, n, cap⟩ ⟨hr, hin, hlo, hni, hi⟩
 dsimp only at hr hin hlo hni hi ⊢
 have hw0 := hw i
 have hw1 := hw (i + 1)
 have r1 := spanA_range (ws.getD i [])
 have r2 := spanB_range (ws.getD i [])
 have r3 := timeA_range (ws.getD (i + 1) [])
 have r4 := timeB_range (ws.getD (i + 1) [])
 have k1 := spanOk_iff (ws.getD i [])
 have k2 := timeOk_iff (ws.getD (i + 1) [])
 have kb : ∀ b : Bool, (b = false) = ¬ b = true := fun b => by cases b <;> simp
 (repeat' (first | refine zS ?_ | refine zq5 ?_ | refine zq6 ?_ | (refine zT ?_ ?_ <;> intro h <;> first | exact zX | refine zNq ?_)))
 ·rw [← hr, wRun_none (by omega)]
  exact ret0 _ (.tup [.sl [], .int .i64 4]) rfl rfl (by (refine .inr (.inr (.inr (.inr (.inr ⟨_, _, rfl, rfl, ?_⟩)))); (repeat (first | exact True.intro | refine ⟨.inr (.inl rfl), ?_⟩ | refine ⟨.inr (.inr (.inl ⟨rfl, rfl⟩)), ?_⟩ | refine ⟨.inr (.inr (.inr (.inl ⟨_, _, _, _, _, _, rfl, rfl, rfl, rfl, rfl⟩))), ?_⟩ | refine ⟨.inr (.inr (.inr (.inr (.inl ⟨_, _, rfl, rfl, ?_⟩)))), ?_⟩)))) rfl
 ·rw [wRun_step (by omega), if_pos (by rw [kb, kb, k1, k2]; exact h)] at hr
  rw [← hr]
  exact ret0 _ (.tup [.sl [], .int .i64 4]) rfl rfl (by (refine .inr (.inr (.inr (.inr (.inr ⟨_, _, rfl, rfl, ?_⟩)))); (repeat (first | exact True.intro | refine ⟨.inr (.inl rfl), ?_⟩ | refine ⟨.inr (.inr (.inl ⟨rfl, rfl⟩)), ?_⟩ | refine ⟨.inr (.inr (.inr (.inl ⟨_, _, _, _, _, _, rfl, rfl, rfl, rfl, rfl⟩))), ?_⟩ | refine ⟨.inr (.inr (.inr (.inr (.inl ⟨_, _, rfl, rfl, ?_⟩)))), ?_⟩)))) rfl
 have s1 : spanOk (ws.getD i []) = true := k1.2 (by omega)
 have s2 : timeOk (ws.getD (i + 1) []) = true := k2.2 (by omega)
 rw [wRun_step (by omega), if_neg (by rw [s1, s2]; simp)] at hr
 have hin2 := itemRs_in s1 s2
 have f1 := span_facts _ s1
 have f2 := time_facts _ s2
 have hil := itemRs_len (ws.getD i []) (ws.getD (i + 1) [])
 have htk := @itemRs_take (ws.getD i []) (ws.getD (i + 1) [])
 generalize hits : itemRs (ws.getD i []) (ws.getD (i + 1) []) = its at hr hin2 hil htk ⊢
 refine pw_for hD (fun a : Nat × Nat => [(4, .msl 2 0 0 ((out ++ its.take a.1).map eRng).length a.2), (13, .int .i64 (spanA (ws.getD i []) + a.1))]) (fun a => [.arr 2 ((out ++ its.take a.1).map eRng) a.2])
  (fun a => a.1 ≤ its.length) (fun a => its.length - a.1) (0, cap) (Nat.zero_le _) 1 rfl (fun _ => rfl) (by simp only [List.take_zero, List.append_nil]; (exact zLes)) (fun _ => rfl) (fun _ => rfl) (by simp only [List.take_zero, List.append_nil, Int.natCast_zero, Int.add_zero]; (exact zLe)) ?_
 rintro ⟨k, cap2⟩ hk
 dsimp only at hk ⊢
 have htl : (its.take k).length ≤ k := List.length_take_le ..
 (repeat' (first | refine zS ?_ | refine zq5 ?_ | refine zq6 ?_ | (refine zT ?_ ?_ <;> intro h <;> first | exact zX | refine zNq ?_)))
 ·have hkl : k < its.length := by omega
  have hkn := htk hkl
  (refine pl_append (b := 8) hT hD rfl rfl rfl rfl rfl rfl rfl rfl (.inl (Nat.zero_lt_succ _)) rfl rfl (by simp; omega) (fun cap3 _ hcap => ?_); (refine zNp ?_))
  (repeat' (first | refine zS ?_ | refine zq5 ?_ | refine zq6 ?_ | (refine zT ?_ ?_ <;> intro h <;> first | exact zX | refine zNq ?_)))
  refine ⟨(k + 1, cap3), hkl, by show _ - (k + 1) < _ - k; omega, ?_, ?_⟩
  all_goals simp only [hkn, ← List.append_assoc, @List.map_append _ _ _ _ [_]]
  ·have e : spanA (ws.getD i []) + ((k + 1 : Nat) : Int) = spanA (ws.getD i []) + k + 1 := by omega
   rw [e]; simp only [List.length_append, List.length_map, List.length_cons, List.length_nil]
   (exact zLe)
  ·(exact zLes)
 all_goals
  have hkl : k = its.length := by omega
  subst hkl
  rw [List.take_length] at *
 ·rw [if_pos (by omega)] at hr
  rw [← hr, wEnd, if_pos (by omega)]
  exact ret0 _ (.tup [.sl [], .int .i64 3]) rfl rfl (by (refine .inr (.inr (.inr (.inr (.inr ⟨_, _, rfl, rfl, ?_⟩)))); (repeat (first | exact True.intro | refine ⟨.inr (.inl rfl), ?_⟩ | refine ⟨.inr (.inr (.inl ⟨rfl, rfl⟩)), ?_⟩ | refine ⟨.inr (.inr (.inr (.inl ⟨_, _, _, _, _, _, rfl, rfl, rfl, rfl, rfl⟩))), ?_⟩ | refine ⟨.inr (.inr (.inr (.inr (.inl ⟨_, _, rfl, rfl, ?_⟩)))), ?_⟩)))) rfl
 ·rw [if_pos (by omega)] at hr
  rw [← hr, wEnd, if_neg (by omega)]
  have ho : ∀ r ∈ out ++ its, RIn r ∧ r.lo ≤ r.hi := fun r hm => (List.mem_append.1 hm).elim (hin r) (hin2 r)
  have hne : (out ++ its).filter (fun r => decide (r.lo ≤ r.hi)) ≠ [] := by
   rw [List.filter_eq_self.2 fun r hm => decide_eq_true (ho r hm).2]
   intro e
   have := congrArg List.length e
   simp only [List.length_append, List.length_nil] at this
   omega
  have hlen : (out ++ its).length < 4294967296 := by rw [List.length_append]; omega
  generalize out ++ its = o at ho hne hlen ⊢
  refine pl_frz1 0 91 rfl rfl rfl ?_
  refine zNp ?_
  (refine pl_op rfl (op_fun (PFun.le (args := [.sl (o.map eRng), .nilsl]) (c_union o hlen (fun r hm => (ho r hm).1) hne) ⟨.inr (.inl rfl), .inr (.inr (.inl ⟨rfl, rfl⟩)), trivial⟩) rfl rfl e143 zLe rfl (fun r hr => ?_)); subst hr; refine ⟨rfl, ?_⟩; (refine zNp ?_))
  (repeat' (first | refine zS ?_ | refine zq5 ?_ | refine zq6 ?_ | (refine zT ?_ ?_ <;> intro h <;> first | exact zX | refine zNq ?_)))
  exact ret1 _ rfl rfl rfl
 ·rename_i hc
  rw [if_neg (by omega), if_neg hc] at hr
  rw [← hr]
  exact ret0 _ (.tup [.sl [], .int .i64 4]) rfl rfl (by (refine .inr (.inr (.inr (.inr (.inr ⟨_, _, rfl, rfl, ?_⟩)))); (repeat (first | exact True.intro | refine ⟨.inr (.inl rfl), ?_⟩ | refine ⟨.inr (.inr (.inl ⟨rfl, rfl⟩)), ?_⟩ | refine ⟨.inr (.inr (.inr (.inl ⟨_, _, _, _, _, _, rfl, rfl, rfl, rfl, rfl⟩))), ?_⟩ | refine ⟨.inr (.inr (.inr (.inr (.inl ⟨_, _, rfl, rfl, ?_⟩)))), ?_⟩)))) rfl
 ·rename_i hc
  have hc : ws.getD (i + 2) [] = [44] := by simpa using hc
  rw [if_neg (by omega), if_pos hc] at hr
  exact ⟨(i + 3, out ++ its, n + 1, cap2), ⟨hr, fun r hm => (List.mem_append.1 hm).elim (hin r) (hin2 r), by simp; omega, by dsimp only; omega, by dsimp only; omega⟩, by dsimp only; omega, zLe, zLes⟩
theorem c_valid (l : List TRng) (top : Int) (hl : l.length < 4294967296) (ht : 0 ≤ top ∧ top < 4294967296) (hin : ∀ r ∈ l, RIn r) : PFun Tryz.prog Gl 149 [.sl (l.map eRng), .int .u32 top] fun r => r = .bool (ivalid l top) := by
 (refine PFun.of hT Tryz.func149 rfl fun B hD => ?_; refine pw_norm rfl ?_)
 (repeat' (first | (refine zDr [[0,1,2,3,4,5,6,7,8,9,10,11,12,13,14,15,16,17,18,19,20,21,22,23,24,25,26,27,28]] ?_; refine zDn ?_) | refine zS ?_ | refine zD ?_ | refine po_both ?_ ?_ | refine pwt_both ?_ ?_ | refine pwt_fork ?_ | refine pwt_lin ?_ | (refine po_test rfl rfl rfl rfl zB ?_ ?_ <;> intro hb <;> first | exact zX | refine zDn ?_) | refine zq5 ?_ | refine zq6 ?_ | (refine zT ?_ ?_ <;> intro h <;> first | exact zX | refine zNq ?_)))
 refine pw_for hD (fun i : Nat => [(9, .int .i64 i)]) (fun _ => []) (fun i => i ≤ l.length ∧ ∀ j, j < i → chk top l j) (fun i => l.length - i) 0 ⟨Nat.zero_le _, fun j h => by cases h⟩ 0 rfl (fun _ => rfl) zLes (fun _ => rfl) (fun _ => rfl) zLe ?_
 rintro i ⟨hi, hall⟩
 have hri : i < l.length → RIn (l.getD i default) := fun h => by rw [List.getD, List.getElem?_eq_getElem h]; exact hin _ (List.getElem_mem h)
 have hrp : i < l.length → RIn (l.getD (i - 1) default) := fun h => by rw [List.getD, List.getElem?_eq_getElem (by omega : i - 1 < l.length)]; exact hin _ (List.getElem_mem _)
 unfold RIn at hri hrp
 (repeat' (first | (refine zDr [[0,1,2,3,4,5,6,7,8,9,10,11,12,13,14,15,16,17,18,19,20,21,22,23,24,25,26,27,28]] ?_; refine zDn ?_) | refine zS ?_ | refine zD ?_ | refine po_both ?_ ?_ | refine pwt_both ?_ ?_ | refine pwt_fork ?_ | refine pwt_lin ?_ | (refine po_test rfl rfl rfl rfl zB ?_ ?_ <;> intro hb <;> first | exact zX | refine zDn ?_) | refine zq5 ?_ | refine zq6 ?_ | (refine zT ?_ ?_ <;> intro h <;> first | exact zX | refine zNq ?_)))
 ·exact ret1 _ rfl (congrArg PV.bool (decide_eq_false fun hh => by have := (hh i (by omega)).1; omega)).symm rfl
 ·exact ret1 _ rfl (congrArg PV.bool (decide_eq_false fun hh => by have := (hh i (by omega)).2.1; omega)).symm rfl
 ·exact ret1 _ rfl (congrArg PV.bool (decide_eq_false fun hh => by have := (hh i (by omega)).2.2; omega)).symm rfl
 ·exact ⟨i + 1, ⟨by omega, fun j hj => by
   by_cases e : j = i
   ·subst e; exact ⟨by omega, by omega, fun _ => by omega⟩
   ·exact hall j (by omega)⟩, by omega, zLe, zLes⟩
 ·exact ⟨i + 1, ⟨by omega, fun j hj => by
   by_cases e : j = i
   ·subst e; exact ⟨by omega, by omega, fun _ => by omega⟩
   ·exact hall j (by omega)⟩, by omega, zLe, zLes⟩
 ·exact ret1 _ rfl (congrArg PV.bool (decide_eq_true fun j hj => hall j (by omega))).symm rfl
theorem c_isect (a b : List TRng) (hla : a.length < 1000000) (hlb : b.length < 1000000) (ha : Can a) (hb : Can b) (hia : ∀ r ∈ a, RIn r) (hib : ∀ r ∈ b, RIn r) (ha0 : a ≠ []) (hb0 : b ≠ []) : PFun Tryz.prog Gl 150 [.sl (a.map eRng), .sl (b.map eRng)] fun r => r = .sl ((isect a b).map eRng) := by
 (refine PFun.of hT Tryz.func150 rfl fun B hD => ?_; refine pw_norm rfl ?_)
 rw [← isx_eq ha hb]
 have fa := canon_self ha
 have fb := canon_self hb
 have c1 := c_canonical (Gl := Gl) a (by omega) hia (by rw [ha.filt]; exact ha0)
 have c2 := c_canonical (Gl := Gl) b (by omega) hib (by rw [hb.filt]; exact hb0)
 rw [fa] at c1
 rw [fb] at c2
 (repeat' (first | refine zS ?_ | refine zq5 ?_ | refine zq6 ?_ | (refine zT ?_ ?_ <;> intro h <;> first | exact zX | refine zNq ?_)))
 (refine pl_op rfl (op_fun (c1) rfl rfl e174 zLe rfl (fun r hr => ?_)); subst hr; refine ⟨rfl, ?_⟩; (refine zNp ?_))
 (repeat' (first | refine zS ?_ | refine zq5 ?_ | refine zq6 ?_ | (refine zT ?_ ?_ <;> intro h <;> first | exact zX | refine zNq ?_)))
 (refine pl_op rfl (op_fun (c2) rfl rfl e174 zLe rfl (fun r hr => ?_)); subst hr; refine ⟨rfl, ?_⟩; (refine zNp ?_))
 (repeat' (first | refine zS ?_ | refine zq5 ?_ | refine zq6 ?_ | (refine zT ?_ ?_ <;> intro h <;> first | exact zX | refine zNq ?_)))
 refine pw_ghost 2 ?_
 refine zNq ?_
 refine pw_for hD (fun x : Nat × Nat × List TRng × Nat => [(5, .msl 2 0 0 (x.2.2.1.map eRng).length x.2.2.2), (6, .int .i64 x.1), (7, .int .i64 x.2.1)]) (fun x => [.arr 2 (x.2.2.1.map eRng) x.2.2.2])
  (fun x => x.2.2.1 ++ isx (a.drop x.1) (b.drop x.2.1) = isx a b ∧ x.1 ≤ a.length ∧ x.2.1 ≤ b.length ∧ x.2.2.1.length ≤ x.1 + x.2.1) (fun x => a.length + b.length - x.1 - x.2.1) (0, 0, [], 0) ⟨rfl, Nat.zero_le _, Nat.zero_le _, Nat.le_refl _⟩ 1 rfl (fun _ => rfl) zLes (fun _ => rfl) (fun _ => rfl) zLe ?_
 rintro ⟨i, j, o, cap⟩ ⟨hr, hi, hj, ho⟩
 dsimp only at hr hi hj ho ⊢
 have ria : i < a.length → RIn (a.getD i default) := fun h => by rw [List.getD, List.getElem?_eq_getElem h]; exact hia _ (List.getElem_mem h)
 have rib : j < b.length → RIn (b.getD j default) := fun h => by rw [List.getD, List.getElem?_eq_getElem h]; exact hib _ (List.getElem_mem h)
 unfold RIn at ria rib
 (repeat' (first | (refine zDr [[0,1,2,3,4,5,6,7,8,9,10,11,12,13,14,15,16,17,18,19,20,21,22,23]] ?_; refine zDn ?_) | (refine zDr [[0,1,2,3,4,5,6,7,8,9,10]] ?_; refine zDn ?_) | refine zS ?_ | refine zD ?_ | refine po_both ?_ ?_ | refine pwt_both ?_ ?_ | refine pwt_fork ?_ | refine pwt_lin ?_ | (refine po_test rfl rfl rfl rfl zB ?_ ?_ <;> intro hb <;> first | exact zX | refine zDn ?_) | refine zq5 ?_ | refine zq6 ?_ | (refine zT ?_ ?_ <;> intro h <;> first | exact zX | refine zNq ?_)))
 ·(refine po_val rfl rfl (v_max rfl rfl rfl) ?_; refine zDn ?_)
  refine zD ?_
  (refine po_val rfl rfl (v_min rfl rfl rfl) ?_; refine zDn ?_)
  refine zD ?_
  (repeat' (first | (refine zDr [[0,1,2,3,4,5,6,7,8,9,10,11,12,13,14,15,16,17,18,19,20,21,22,23]] ?_; refine zDn ?_) | (refine zDr [[0,1,2,3,4,5,6,7,8,9,10]] ?_; refine zDn ?_) | refine zS ?_ | refine zD ?_ | refine po_both ?_ ?_ | refine pwt_both ?_ ?_ | refine pwt_fork ?_ | refine pwt_lin ?_ | (refine po_test rfl rfl rfl rfl zB ?_ ?_ <;> intro hb <;> first | exact zX | refine zDn ?_) | refine zq5 ?_ | refine zq6 ?_ | (refine zT ?_ ?_ <;> intro h <;> first | exact zX | refine zNq ?_)))
  all_goals
   have hia' : i < a.length := by omega
   have hjb' : j < b.length := by omega
   have ga : a[i] = a.getD i default := by rw [List.getD, List.getElem?_eq_getElem hia']; rfl
   have gb : b[j] = b.getD j default := by rw [List.getD, List.getElem?_eq_getElem hjb']; rfl
   rw [isx_drop hia' hjb', ga, gb, isx1] at hr
  ·rw [if_pos h, ← List.append_assoc] at hr
   (refine pl_append (b := 8) hT hD rfl rfl rfl rfl rfl rfl rfl rfl (.inl (Nat.zero_lt_succ _)) rfl rfl (by simp; omega) (fun cap2 _ hcap => ?_); (refine zNp ?_))
   (repeat' (first | (refine zDr [[0,1,2,3,4,5,6,7,8,9,10,11,12,13,14,15,16,17,18,19,20,21,22,23]] ?_; refine zDn ?_) | (refine zDr [[0,1,2,3,4,5,6,7,8,9,10]] ?_; refine zDn ?_) | refine zS ?_ | refine zD ?_ | refine po_both ?_ ?_ | refine pwt_both ?_ ?_ | refine pwt_fork ?_ | refine pwt_lin ?_ | (refine po_test rfl rfl rfl rfl zB ?_ ?_ <;> intro hb <;> first | exact zX | refine zDn ?_) | refine zq5 ?_ | refine zq6 ?_ | (refine zT ?_ ?_ <;> intro h <;> first | exact zX | refine zNq ?_)))
   ·rw [if_pos (by assumption)] at hr
    refine ⟨(i + 1, j, _, cap2), ⟨hr, hia', hj, by simp; omega⟩, by dsimp only; omega, ?_, ?_⟩
    all_goals simp only [List.map_append, List.length_append, List.map_cons, List.map_nil]
    ·(exact zLe)
    ·(exact zLes)
   ·rw [if_neg (by assumption)] at hr
    refine ⟨(i, j + 1, _, cap2), ⟨hr, hi, hjb', by simp; omega⟩, by dsimp only; omega, ?_, ?_⟩
    all_goals simp only [List.map_append, List.length_append, List.map_cons, List.map_nil]
    ·(exact zLe)
    ·(exact zLes)
  ·rw [if_neg (show ¬ _ from by assumption), if_pos h, List.nil_append] at hr
   exact ⟨(i + 1, j, o, cap), ⟨hr, hia', hj, by dsimp only; omega⟩, by dsimp only; omega, zLe, zLes⟩
  ·rw [if_neg (show ¬ _ from by assumption), if_neg h, List.nil_append] at hr
   exact ⟨(i, j + 1, o, cap), ⟨hr, hi, hjb', by dsimp only; omega⟩, by dsimp only; omega, zLe, zLes⟩
 ·have he : isx (a.drop i) (b.drop j) = [] := by
   by_cases hia' : i < a.length
   ·rw [List.drop_eq_nil_of_le (show b.length ≤ j by omega), isx_nil_right]
   ·rw [List.drop_eq_nil_of_le (show a.length ≤ i by omega), isx_nil_left]
  rw [he, List.append_nil] at hr
  rw [← hr]
  exact ret0 _ (.sl (o.map eRng)) rfl rfl (.inr (.inr (.inr (.inl ⟨_, _, _, _, _, _, rfl, rfl, rfl, rfl, rfl⟩)))) rfl

end
end Go.Proofs.YtkaobkjcjodffaaGreatDoor