/-
 Contracts of functions, walked over pure values.
-/
import Derived.Test.YtkaobkjcjodffaaGreatDoorTK13
import Derived.Test.YtkaobkjcjodffaaGreatDoorTK7
import Derived.Test.YtkaobkjcjodffaaGreatDoorTK19
set_option maxHeartbeats 20000000
set_option maxRecDepth 100000
namespace Go.Proofs.YtkaobkjcjodffaaGreatDoor
open Go Go.Pw
section
def wOkB (l : List TRng) : Bool := decide (((wFormat l).length : Int) > 0) && decide ((((wFormat l).length : Int) + 1) / 3 ≤ 16)
def pWin (l : List TWin) (w : List Str) : Int × List TWin :=
 if ((w.length : Int) < 3 ∨ ¬ vname (w.getD 1 []) = true) ∨ ¬ w.getD 2 [] = [61] then (4, l) else
 if ¬ (wParse (w.drop 3)).2 = 0 then ((wParse (w.drop 3)).2, l) else
 if ¬ wOkB (wParse (w.drop 3)).1 = true then (3, l) else
 if 0 ≤ firstAt (fun d => d.name == w.getD 1 []) l then (6, l) else
 if 32 ≤ l.length then (3, l) else (0, l ++ [⟨w.getD 1 [], (wParse (w.drop 3)).1⟩])
theorem wFormat_len (l : List TRng) : (wFormat l).length ≤ 21 * (l.length + 1) + 1 := by
 unfold wFormat
 split
 ·rename_i h
  split
  ·simp
  ·have := wDays_len (can_ivalid h).1 7 (by omega)
   omega
 ·simp
theorem canon_in {l : List TRng} (h : ∀ r ∈ l, RIn r) : ∀ r ∈ canon l, RIn r := by
 intro r hr
 have hc := (canon_ok l).1
 have hm := (canon_ok l).2
 have hle := hc.le r hr
 obtain ⟨x, hx, h1, _⟩ := (hm r.lo).1 ⟨r, hr, Int.le_refl _, hle⟩
 obtain ⟨y, hy, _, h2⟩ := (hm r.hi).1 ⟨r, hr, hle, Int.le_refl _⟩
 have h3 := h x hx
 have h4 := h y hy
 unfold RIn at *
 omega
theorem mstep_all_len : ∀ (d out : List TRng), (d.foldl mstep out).length ≤ out.length + d.length
 | [], out => by simp
 | r :: d, out => by
  have := mstep_all_len d (mstep out r)
  have := mstep_len out r
  simp only [List.foldl_cons, List.length_cons]
  omega
theorem canon_len (l : List TRng) : (canon l).length ≤ l.length := by
 unfold canon mergeAll
 refine Nat.le_trans (mstep_all_len _ _) ?_
 have h1 := (List.mergeSort_perm (l.filter fun r => decide (r.lo ≤ r.hi)) fun a b => decide (a.lo ≤ b.lo)).length_eq
 have h2 := List.length_filter_le (fun r => decide (r.lo ≤ r.hi)) l
 simp only [List.length_nil]
 omega
theorem wRun_ok : ∀ (n : Nat) (ws : List Str) (out : List TRng) (k : Nat), ws.length ≤ n → (∀ r ∈ out, RIn r) → out.length ≤ 7 * k → ∀ q, wRun ws out k = some q → (∀ r ∈ q.1, RIn r) ∧ q.1.length ≤ 7 * q.2
 | 0, ws, out, k, hn, h1, h2, q, h => by
  have : ws = [] := List.length_eq_zero_iff.1 (by omega)
  subst this
  simp [wRun] at h
 | n + 1, ws, out, k, hn, h1, h2, q, h => by
  match ws, hn, h with
  | [], _, h => simp [wRun] at h
  | [_], _, h => simp [wRun] at h
  | [d, t], hn, h =>
   simp only [wRun] at h
   split at h
   ·cases h
   ·rename_i hh
    have s1 : spanOk d = true := by cases e : spanOk d <;> simp_all
    have s2 : timeOk t = true := by cases e : timeOk t <;> simp_all
    have hin := itemRs_in s1 s2
    have hl := itemRs_len d t
    have f1 := span_facts _ s1
    have g1 : ∀ r ∈ out ++ itemRs d t, RIn r := fun r hr => by
     rcases List.mem_append.1 hr with hr | hr
     ·exact h1 r hr
     ·exact (hin r hr).1
    have g2 : (out ++ itemRs d t).length ≤ 7 * (k + 1) := by rw [List.length_append]; omega
    cases h
    exact ⟨g1, g2⟩
  | d :: t :: c :: rest, hn, h =>
   simp only [wRun] at h
   split at h
   ·cases h
   ·rename_i hh
    have s1 : spanOk d = true := by cases e : spanOk d <;> simp_all
    have s2 : timeOk t = true := by cases e : timeOk t <;> simp_all
    have hin := itemRs_in s1 s2
    have hl := itemRs_len d t
    have f1 := span_facts _ s1
    have g1 : ∀ r ∈ out ++ itemRs d t, RIn r := fun r hr => by
     rcases List.mem_append.1 hr with hr | hr
     ·exact h1 r hr
     ·exact (hin r hr).1
    have g2 : (out ++ itemRs d t).length ≤ 7 * (k + 1) := by rw [List.length_append]; omega
    split at h
    ·exact wRun_ok n _ _ _ (by simp only [List.length_cons] at hn ⊢; omega) g1 g2 q h
    ·cases h
theorem wParse_ok (ws : List Str) : (∀ r ∈ (wParse ws).1, RIn r) ∧ (wParse ws).1.length ≤ 112 := by
 unfold wParse
 split
 ·simp
 ·unfold wEnd
  split
  ·simp
  ·rename_i out n h
   have := wRun_ok _ ws [] 0 (Nat.le_refl _) (by simp) (by simp) _ h
   split
   ·simp
   ·refine ⟨canon_in this.1, ?_⟩
    have := canon_len out
    dsimp only at *
    omega
variable {Gl : Glob}
attribute [local irreducible] PW PWL OpP PCalls PWO formB vname digitsB addr portsT number wParse wFormat PWT bothT
instance (ws : List Str) : ConF Tryz.prog Gl 98 [.sl (ws.map .str)] (GM Gl ∧ GD Gl ∧ ws.length < 1000000 ∧ ∀ k, (ws.getD k []).length < 4294967281) (.tup [.sl ((wParse ws).1.map eRng), .int .i64 (wParse ws).2]) := ⟨e98, fun h => c_wParse h.1 h.2.1 ws h.2.2.1 h.2.2.2⟩
instance (l : List TRng) : ConF Tryz.prog Gl 109 [.sl (l.map eRng)] (GD Gl ∧ l.length < 100000 ∧ ∀ r ∈ l, RIn r) (.sl ((wFormat l).map .str)) := ⟨e109, fun h => c_wFormat h.1 l h.2.1 h.2.2⟩
theorem c_written (hD' : GD Gl) (l : List TRng) (hl : l.length < 100000) (hin : ∀ r ∈ l, RIn r) : PFun Tryz.prog Gl 61 [.sl (l.map eRng)] fun r => r = .tup [.sl ((wFormat l).map .str), .bool (wOkB l)] := by
 (refine PFun.of hT Tryz.func61 rfl fun B hD => ?_; refine pw_norm rfl ?_)
 have hfl := wFormat_len l
 (repeat' (first | refine zS ?_ | refine zq5 ?_ | refine zq6 ?_ | (refine zT ?_ ?_ <;> intro h <;> first | exact zX | refine zNq ?_)))
 exact ret2 _ rfl rfl rfl
instance (l : List TRng) : ConF Tryz.prog Gl 61 [.sl (l.map eRng)] (GD Gl ∧ l.length < 100000 ∧ ∀ r ∈ l, RIn r) (.tup [.sl ((wFormat l).map .str), .bool (wOkB l)]) := ⟨e61, fun h => c_written h.1 l h.2.1 h.2.2⟩
attribute [local irreducible] wOkB
theorem c_readWindow (hG : GM Gl) (hD' : GD Gl) (i : TInt) (hi : i.windows.length ≤ 32) (c : ICaps) (w : List Str) (hw : WOk w) (hl : w.length ≤ 1000) : PCalls Tryz.prog Gl 47 [.ptr 0 0, .sl (w.map .str)] (ist i c) fun r s => ∃ c', r = .int .i64 (pWin i.windows w).1 ∧ s = ist { i with windows := (pWin i.windows w).2 } c' := by
 refine PCalls.of hT Tryz.func47 rfl 7 (Nat.le_refl _) fun B hD => ?_
 unfold ist
 refine pw_norm rfl ?_
 have hd := RdOk.drop hl hw.at 3
 obtain ⟨hd1, hd2⟩ := hd
 obtain ⟨hp1, hp2⟩ := wParse_ok (w.drop 3)
 have hlg : (i.windows.map eWin).length = i.windows.length := List.length_map ..
 have hsm : Small i.windows := by unfold Small; omega
 (repeat' (first | (refine zDr [[0,1,2,3,4,5,6,7,8,9,10],[11],[12,13],[14]] ?_; refine zDn ?_) | (refine zDr [[0,1,2,3,4,5,6],[7],[8,9]] ?_; refine zDn ?_) | refine zS ?_ | refine zD ?_ | refine po_both ?_ ?_ | refine pwt_both ?_ ?_ | refine pwt_fork ?_ | refine pwt_lin ?_ | (refine po_test rfl rfl rfl rfl zB ?_ ?_ <;> intro hb <;> first | exact zX | refine zDn ?_) | refine zq5 ?_ | refine zq6 ?_ | (refine zT ?_ ?_ <;> intro h <;> first | exact zX | refine zNq ?_)))
 ·rw [show pWin i.windows w = (4, i.windows) from by unfold pWin; (repeat (first | refine (if_pos (by assumption)).trans ?_ | refine (if_neg (by assumption)).trans ?_)); rfl]
  exact ⟨_, _, _, rfl, ⟨c, rfl, rfl⟩, .inr (.inl rfl), zF, rfl, rfl⟩
 ·rw [show pWin i.windows w = ((wParse (w.drop 3)).2, i.windows) from by unfold pWin; (repeat (first | refine (if_pos (by assumption)).trans ?_ | refine (if_neg (by assumption)).trans ?_)); rfl]
  exact ⟨_, _, _, rfl, ⟨c, rfl, rfl⟩, .inr (.inl rfl), zF, rfl, rfl⟩
 ·rw [show pWin i.windows w = (3, i.windows) from by unfold pWin; rename_i g1 g2; rw [if_neg g1, if_neg g2, if_pos h]]
  exact ⟨_, _, _, rfl, ⟨c, rfl, rfl⟩, .inr (.inl rfl), zF, rfl, rfl⟩
 ·rename_i g1 g2 g3
  rw [show pWin i.windows w = (6, i.windows) from by unfold pWin; rw [if_neg g1, if_neg g2, if_neg g3, if_pos (show 0 ≤ firstAt (fun d : TWin => d.name == w.getD 1 []) i.windows from h)]]
  exact ⟨_, _, _, rfl, ⟨c, rfl, rfl⟩, .inr (.inl rfl), zF, rfl, rfl⟩
 ·rename_i g1 g2 g3 g4
  rw [show pWin i.windows w = (3, i.windows) from by unfold pWin; rw [if_neg g1, if_neg g2, if_neg g3, if_neg (show ¬ 0 ≤ firstAt (fun d : TWin => d.name == w.getD 1 []) i.windows from g4), if_pos (by omega)]]
  exact ⟨_, _, _, rfl, ⟨c, rfl, rfl⟩, .inr (.inl rfl), zF, rfl, rfl⟩
 ·rename_i g1 g2 g3 g4
  rw [show pWin i.windows w = (0, i.windows ++ [⟨w.getD 1 [], (wParse (w.drop 3)).1⟩]) from by unfold pWin; rw [if_neg g1, if_neg g2, if_neg g3, if_neg (show ¬ 0 ≤ firstAt (fun d : TWin => d.name == w.getD 1 []) i.windows from g4), if_neg (by omega)]]
  (refine po_step rfl rfl (op_append (b := 40) hT rfl rfl rfl rfl rfl rfl (.inl (Nat.zero_lt_succ _)) rfl rfl (by simp; omega) (fun cap' _ hcap => ⟨zLok, ?_⟩)); refine zDn ?_)
  refine zD ?_
  (refine pw_mv 3 7 hD rfl rfl rfl rfl rfl ?_; refine pw_norm rfl ?_)
  (repeat' (first | refine zS ?_ | refine zq5 ?_ | refine zq6 ?_ | (refine zT ?_ ?_ <;> intro h <;> first | exact zX | refine zNq ?_)))
  refine ⟨_, _, _, rfl, ⟨(c.1, c.2.1, cap', c.2.2.2), rfl, rfl⟩, .inr (.inl rfl), ?_, rfl, rfl⟩
  simp only [List.map_append, List.length_append]
  exact zF
end
section
variable {Gl : Glob}
attribute [local irreducible] PW PWL OpP PCalls PWO PWT bothT
theorem c_rwindow (l : List TRng) (hl : l.length < 4294967296) (hin : ∀ r ∈ l, RIn r) : PFun Tryz.prog Gl 82 [.sl (l.map eRng)] fun r => r = .bool (ivalid l 10079) := by
 (refine PFun.of hT Tryz.func82 rfl fun B hD => ?_; refine pw_norm rfl ?_)
 (repeat' (first | refine zS ?_ | (refine zT ?_ ?_ <;> intro h <;> first | exact zX | refine zNq ?_)))
 exact ret2 _ rfl rfl rfl
instance (l : List TRng) : ConF Tryz.prog Gl 82 [.sl (l.map eRng)] (l.length < 4294967296 ∧ ∀ r ∈ l, RIn r) (.bool (ivalid l 10079)) := ⟨e82, fun h => c_rwindow l h.1 h.2⟩
theorem c_rFormat9 (l : List TRng) (hl : l.length < 100000) (hin : ∀ r ∈ l, RIn r) : PFun Tryz.prog Gl 32 [.sl (l.map eRng)] fun r => r = .sl ((wFormat l).map .str) := by
 (refine PFun.of hT Tryz.func32 rfl fun B hD => ?_; refine pw_norm rfl ?_)
 unfold wFormat
 have hci := @can_ivalid l 10079
 (try refine zS ?_)
 generalize ivalid l 10079 = iv at hci ⊢
 (repeat' (first | refine zS ?_ | (refine zT ?_ ?_ <;> intro h <;> first | exact zX | refine zNq ?_)))
 ·have e : iv = false := by simpa using h
  rw [e]
  exact ret0 _ (.sl []) rfl rfl (.inr (.inr (.inl ⟨rfl, rfl⟩))) rfl
 ·have e : iv = true := by rename_i hh; simpa using hh
  have el : l = [] := List.length_eq_zero_iff.1 (by omega)
  rw [e, if_pos rfl, if_pos el]
  exact ret1 _ rfl rfl rfl
 have e : iv = true := by rename_i hh; simpa using hh
 have el : l ≠ [] := by rintro rfl; exact h rfl
 rw [if_pos e, if_neg el]
 obtain ⟨hcan, htop⟩ := hci e
 subst e
 clear hci
 refine pw_ghost 1 ?_
 refine zNq ?_
 refine pw_for hD (fun a : Nat × Nat => [(3, .msl 1 0 0 ((wDays l a.1).map PV.str).length a.2), (4, .int .i64 a.1)]) (fun a => [.arr 1 ((wDays l a.1).map PV.str) a.2]) (fun a => a.1 ≤ 7) (fun a => 7 - a.1) (0, 0) (Nat.zero_le _) 1 rfl (fun _ => rfl) zLes (fun _ => rfl) (fun _ => rfl) zLe ?_
 rintro ⟨d, cap⟩ hd
 dsimp only at hd ⊢
 have hz := dayAll_can d
 have hwl := wDay_len hcan d
 have hwi := wDay_in l d
 have hdl := wDays_len hcan d hd
 have hdl2 : (wDays l d).length ≤ 21 * (l.length + 1) := Nat.le_trans hdl (Nat.mul_le_mul_right _ (by omega))
 have hsu := wDays_succ l d
 have hdn : dayNames.length = 7 := rfl
 (repeat' (first | refine zS ?_ | (refine zT ?_ ?_ <;> intro h <;> first | exact zX | refine zNq ?_)))
 ·have e : dayAll d = ⟨1440 * d, 1440 * d + 1439⟩ := by unfold dayAll; congr 1 <;> omega
  have ci : PFun Tryz.prog Gl 83 [.sl (l.map eRng), .sl [.agg [.int .u32 (1440 * d), .int .u32 (1440 * d + 1439)]]] fun r => r = .sl ((wDay l d).map eRng) := by
   unfold wDay
   rw [e]
   exact c_ruisect l [⟨1440 * d, 1440 * d + 1439⟩] (by omega) (by simp) hin (fun r hr => by rw [List.mem_singleton] at hr; subst hr; unfold RIn; dsimp only; omega)
  generalize wDay l d = W at ci hwl hwi hsu
  (refine pl_op rfl (op_fun (ci) rfl rfl e83 zLe rfl (fun r hr => ?_)); subst hr; refine ⟨rfl, ?_⟩; (refine zNp ?_))
  (repeat' (first | refine zS ?_ | (refine zT ?_ ?_ <;> intro h <;> first | exact zX | refine zNq ?_)))
  have hfl : ∀ k, (((W.take k).foldl (wPut d) (wDays l d))).length ≤ 24 * (l.length + 1) := fun k => by
   have h1 := wPuts_len d (W.take k) (wDays l d)
   have h2 : (W.take k).length ≤ W.length := by rw [List.length_take]; omega
   omega
  have hfs : ∀ k, k < W.length → (W.take (k + 1)).foldl (wPut d) (wDays l d) = wPut d ((W.take k).foldl (wPut d) (wDays l d)) (W.getD k default) := fun k hk => by
   rw [List.take_succ_eq_append_getElem hk, List.foldl_append, List.getD, List.getElem?_eq_getElem hk]; rfl
  refine pw_for hD (fun a : Nat × Nat => [(3, .msl 1 0 0 ((((W.take a.1).foldl (wPut d) (wDays l d))).map PV.str).length a.2), (7, .int .i64 a.1)]) (fun a => [.arr 1 ((((W.take a.1).foldl (wPut d) (wDays l d))).map PV.str) a.2])
   (fun a => a.1 ≤ W.length) (fun a => W.length - a.1) (0, cap) (Nat.zero_le _) 1 rfl (fun _ => rfl) zLes (fun _ => rfl) (fun _ => rfl) zLe ?_
  rintro ⟨k, cap1⟩ hk
  dsimp only at hk ⊢
  have hF := hfl k
  have hF2 := hfs k
  have hwk : k < W.length → 1440 * (d : Int) ≤ (W.getD k default).lo ∧ (W.getD k default).lo ≤ (W.getD k default).hi ∧ (W.getD k default).hi < 1440 * d + 1440 := fun h => by
   rw [List.getD, List.getElem?_eq_getElem h]
   have := hwi _ (List.getElem_mem h)
   show 1440 * (d : Int) ≤ W[k].lo ∧ W[k].lo ≤ W[k].hi ∧ W[k].hi < 1440 * d + 1440
   omega
  generalize ho : (W.take k).foldl (wPut d) (wDays l d) = o at hF hF2 ⊢
  have htl1 : (timeS ((W.getD k default).lo - 1440 * (d : Int))).length = 5 := rfl
  have htl2 : (timeS ((W.getD k default).hi - 1440 * (d : Int) + 1)).length = 5 := rfl
  have hit : wItem d (W.getD k default) = [dayNames.getD d [], timeS ((W.getD k default).lo - 1440 * (d : Int)) ++ [45] ++ timeS ((W.getD k default).hi - 1440 * (d : Int) + 1)] := by unfold wItem; rw [Int.mul_comm]
  (repeat' (first | refine zS ?_ | (refine zT ?_ ?_ <;> intro h <;> first | exact zX | refine zNq ?_)))
  ·(refine pl_append (b := 16) hT hD rfl rfl rfl rfl rfl rfl rfl rfl (.inl (Nat.zero_lt_succ _)) rfl rfl (by simp; omega) (fun cap2 _ hcap => ?_); (refine zNp ?_))
   have hc : wPut d o (W.getD k default) = (o ++ [[44]]) ++ wItem d (W.getD k default) := by unfold wPut; rw [if_pos (by omega)]
   (repeat' (first | (refine zDr [[0,2,5,6,7,8,9,10,11,12,15,16,17,18,19,20,21,22,23],[1],[3,4],[13],[14],[24],[25,26],[27],[28]] ?_; refine zDn ?_) | refine zS ?_ | refine zD ?_ | refine po_both ?_ ?_ | refine pwt_both ?_ ?_ | refine pwt_fork ?_ | refine pwt_lin ?_ | (refine po_test rfl rfl rfl rfl zB ?_ ?_ <;> intro hb <;> first | exact zX | refine zDn ?_) | (refine zT ?_ ?_ <;> intro h <;> first | exact zX | refine zNq ?_)))
   (refine po_step rfl rfl (op_append (b := 16) hT rfl rfl rfl rfl (by simp) rfl (.inl (Nat.zero_lt_succ _)) rfl rfl (by simp <;> omega) (fun cap3 _ hcap => ⟨zLok, ?_⟩)); refine zDn ?_)
   refine zD ?_
   (refine pw_mv 0 1 hD rfl rfl rfl rfl rfl ?_; refine pw_norm rfl ?_)
   (refine pw_trim 1 hD rfl rfl ?_; refine pw_norm rfl ?_)
   (repeat' (first | (refine zDr [[0,2,5,6,7,8,9,10,11,12,15,16,17,18,19,20,21,22,23],[1],[3,4],[13],[14],[24],[25,26],[27],[28]] ?_; refine zDn ?_) | refine zS ?_ | refine zD ?_ | refine po_both ?_ ?_ | refine pwt_both ?_ ?_ | refine pwt_fork ?_ | refine pwt_lin ?_ | (refine po_test rfl rfl rfl rfl zB ?_ ?_ <;> intro hb <;> first | exact zX | refine zDn ?_) | (refine zT ?_ ?_ <;> intro h <;> first | exact zX | refine zNq ?_)))
   have hkl : k < W.length := by omega
   refine ⟨(k + 1, cap3), hkl, by dsimp only; omega, ?_, ?_⟩
   all_goals simp only [hF2 hkl, hc, hit, List.map_append, List.length_append, List.map_cons, List.map_nil]
   ·(exact zLe)
   ·(exact zLes)
  ·have hc : wPut d o (W.getD k default) = o ++ wItem d (W.getD k default) := by unfold wPut; rw [if_neg (by omega)]
   (repeat' (first | (refine zDr [[0,2,5,6,7,8,9,10,11,12,15,16,17,18,19,20,21,22,23],[1],[3,4],[13],[14],[24],[25,26],[27],[28]] ?_; refine zDn ?_) | refine zS ?_ | refine zD ?_ | refine po_both ?_ ?_ | refine pwt_both ?_ ?_ | refine pwt_fork ?_ | refine pwt_lin ?_ | (refine po_test rfl rfl rfl rfl zB ?_ ?_ <;> intro hb <;> first | exact zX | refine zDn ?_) | (refine zT ?_ ?_ <;> intro h <;> first | exact zX | refine zNq ?_)))
   (refine po_step rfl rfl (op_append (b := 16) hT rfl rfl rfl rfl rfl rfl (.inl (Nat.zero_lt_succ _)) rfl rfl (by simp <;> omega) (fun cap3 _ hcap => ⟨zLok, ?_⟩)); refine zDn ?_)
   refine zD ?_
   (refine pw_mv 0 1 hD rfl rfl rfl rfl rfl ?_; refine pw_norm rfl ?_)
   (refine pw_trim 1 hD rfl rfl ?_; refine pw_norm rfl ?_)
   (repeat' (first | (refine zDr [[0,2,5,6,7,8,9,10,11,12,15,16,17,18,19,20,21,22,23],[1],[3,4],[13],[14],[24],[25,26],[27],[28]] ?_; refine zDn ?_) | refine zS ?_ | refine zD ?_ | refine po_both ?_ ?_ | refine pwt_both ?_ ?_ | refine pwt_fork ?_ | refine pwt_lin ?_ | (refine po_test rfl rfl rfl rfl zB ?_ ?_ <;> intro hb <;> first | exact zX | refine zDn ?_) | (refine zT ?_ ?_ <;> intro h <;> first | exact zX | refine zNq ?_)))
   have hkl : k < W.length := by omega
   refine ⟨(k + 1, cap3), hkl, by dsimp only; omega, ?_, ?_⟩
   all_goals simp only [hF2 hkl, hc, hit, List.map_append, List.length_append, List.map_cons, List.map_nil]
   ·(exact zLe)
   ·(exact zLes)
  ·have hkl : k = W.length := by omega
   rw [hkl, List.take_length, ← hsu] at ho
   subst ho
   exact ⟨(d + 1, cap1), by dsimp only; omega, by dsimp only; omega, zLe, zLes⟩
 have : d = 7 := by omega
 subst this
 exact ret0 _ (.sl ((wDays l 7).map PV.str)) rfl rfl (.inr (.inr (.inr (.inl ⟨_, _, _, _, _, _, rfl, rfl, rfl, rfl, rfl⟩)))) rfl
instance (l : List TRng) : ConF Tryz.prog Gl 32 [.sl (l.map eRng)] (l.length < 100000 ∧ ∀ r ∈ l, RIn r) (.sl ((wFormat l).map .str)) := ⟨e32, fun h => c_rFormat9 l h.1 h.2⟩
theorem wRun_mod : ∀ (n : Nat) (ws : List Str) (out : List TRng) (k : Nat), ws.length ≤ n → ∀ q, wRun ws out k = some q → ws.length % 3 = 2
 | 0, ws, out, k, hn, q, h => by
  have : ws = [] := List.length_eq_zero_iff.1 (by omega)
  subst this
  simp [wRun] at h
 | n + 1, ws, out, k, hn, q, h => by
  match ws, hn, h with
  | [], _, h => simp [wRun] at h
  | [_], _, h => simp [wRun] at h
  | [d, t], hn, h => rfl
  | d :: t :: c :: rest, hn, h =>
   simp only [wRun] at h
   split at h
   ·cases h
   ·split at h
    ·have := wRun_mod n rest _ _ (by simp only [List.length_cons] at hn ⊢; omega) q h
     simp only [List.length_cons]
     omega
    ·cases h
theorem c_rParse9 (ws : List Str) (hl : ws.length < 1000000) (hw : ∀ k, (ws.getD k []).length < 4294967281) : PFun Tryz.prog Gl 87 [.sl (ws.map .str)] fun r => r = .tup [.sl ((wParse ws).1.map eRng), .int .i64 (wParse ws).2] := by
 (refine PFun.of hT Tryz.func87 rfl fun B hD => ?_; refine pw_norm rfl ?_)
 have hnv := never_iff ws
 (repeat' (first | refine zS ?_ | refine zq5 ?_ | refine zq6 ?_ | (refine zT ?_ ?_ <;> intro h <;> first | exact zX | refine zNq ?_)))
 ·have hp : wParse ws = ([], 0) := by unfold wParse; rw [if_pos (hnv.2 h)]
  rw [hp]
  exact ret0 _ (.tup [.sl [], .int .i64 0]) rfl rfl (by (refine .inr (.inr (.inr (.inr (.inr ⟨_, _, rfl, rfl, ?_⟩)))); (repeat (first | exact True.intro | refine ⟨.inr (.inl rfl), ?_⟩ | refine ⟨.inr (.inr (.inl ⟨rfl, rfl⟩)), ?_⟩ | refine ⟨.inr (.inr (.inr (.inl ⟨_, _, _, _, _, _, rfl, rfl, rfl, rfl, rfl⟩))), ?_⟩ | refine ⟨.inr (.inr (.inr (.inr (.inl ⟨_, _, rfl, rfl, ?_⟩)))), ?_⟩)))) rfl
 ·have hp : wParse ws = ([], 4) := by
   unfold wParse
   rename_i g
   rw [if_neg fun hh => g (hnv.1 hh)]
   cases hr : wRun ws [] 0 with
   | none => rfl
   | some q => have := wRun_mod _ ws [] 0 (Nat.le_refl _) q hr; omega
  rw [hp]
  exact ret0 _ (.tup [.sl [], .int .i64 4]) rfl rfl (by (refine .inr (.inr (.inr (.inr (.inr ⟨_, _, rfl, rfl, ?_⟩)))); (repeat (first | exact True.intro | refine ⟨.inr (.inl rfl), ?_⟩ | refine ⟨.inr (.inr (.inl ⟨rfl, rfl⟩)), ?_⟩ | refine ⟨.inr (.inr (.inr (.inl ⟨_, _, _, _, _, _, rfl, rfl, rfl, rfl, rfl⟩))), ?_⟩ | refine ⟨.inr (.inr (.inr (.inr (.inl ⟨_, _, rfl, rfl, ?_⟩)))), ?_⟩)))) rfl
 rename_i g
 have hp : wParse ws = wEnd (wRun ws [] 0) := by unfold wParse; rw [if_neg fun hh => g (hnv.1 hh)]
 rw [hp]
 clear hp g hnv
 have hmod : ws.length % 3 = 2 := by omega
 clear h
 refine pw_ghost 2 ?_
 refine zNq ?_
 generalize hW : wRun ws [] 0 = W
 refine pw_for hD (fun a : Nat × List TRng × Nat => [(4, .msl 2 0 0 (a.2.1.map eRng).length a.2.2), (5, .int .i64 ((3 * a.1 : Nat) : Int))]) (fun a => [.arr 2 (a.2.1.map eRng) a.2.2])
  (fun a => (∀ r ∈ a.2.1, RIn r) ∧ a.2.1.length ≤ 7 * a.1 ∧ (3 * a.1 < ws.length ∧ wRun (ws.drop (3 * a.1)) a.2.1 a.1 = W ∨ 3 * a.1 = ws.length + 1 ∧ W = some (a.2.1, a.1))) (fun a => ws.length + 3 - 3 * a.1) (0, [], 0) ⟨by simp, by simp, .inl ⟨by omega, hW⟩⟩ 1 rfl (fun _ => rfl) zLes (fun _ => rfl) (fun _ => rfl) zLe ?_
 rintro ⟨n, out, cap⟩ ⟨hin, hlo, hcase⟩
 dsimp only at hin hlo hcase ⊢
 have hw0 := hw (3 * n)
 have hw1 := hw (3 * n + 1)
 have sp : ∃ a b : Int, ConF Tryz.prog Gl 128 [.str (ws.getD (3 * n) [])] True (.tup [.int .i64 a, .int .i64 b]) ∧ ((spanOk (ws.getD (3 * n) []) = true ∧ a = spanA (ws.getD (3 * n) []) ∧ b = spanB (ws.getD (3 * n) [])) ∨ (spanOk (ws.getD (3 * n) []) = false ∧ a = -1 ∧ b = -1)) := by
  have hc := c_rspan (Gl := Gl) (ws.getD (3 * n) []) hw0
  cases e : spanOk (ws.getD (3 * n) [])
  ·rw [e, if_neg (by decide)] at hc
   exact ⟨_, _, ⟨e128, fun _ => hc⟩, .inr ⟨rfl, rfl, rfl⟩⟩
  ·rw [e, if_pos rfl] at hc
   exact ⟨_, _, ⟨e128, fun _ => hc⟩, .inl ⟨rfl, rfl, rfl⟩⟩
 have ti : ∃ a b : Int, ConF Tryz.prog Gl 129 [.str (ws.getD (3 * n + 1) [])] True (.tup [.int .i64 a, .int .i64 b]) ∧ ((timeOk (ws.getD (3 * n + 1) []) = true ∧ a = timeA (ws.getD (3 * n + 1) []) ∧ b = timeB (ws.getD (3 * n + 1) [])) ∨ (timeOk (ws.getD (3 * n + 1) []) = false ∧ a = -1 ∧ b = -1)) := by
  have hc := c_rtimes (Gl := Gl) (ws.getD (3 * n + 1) []) hw1
  cases e : timeOk (ws.getD (3 * n + 1) [])
  ·rw [e, if_neg (by decide)] at hc
   exact ⟨_, _, ⟨e129, fun _ => hc⟩, .inr ⟨rfl, rfl, rfl⟩⟩
  ·rw [e, if_pos rfl] at hc
   exact ⟨_, _, ⟨e129, fun _ => hc⟩, .inl ⟨rfl, rfl, rfl⟩⟩
 obtain ⟨a, b, isp, hsp⟩ := sp
 obtain ⟨c, d, iti, hti⟩ := ti
 have f1 := span_facts (ws.getD (3 * n) [])
 have f2 := time_facts (ws.getD (3 * n + 1) [])
 (repeat' (first | refine zS ?_ | refine zq5 ?_ | refine zq6 ?_))
 refine zT ?_ ?_ <;> intro h <;> refine zNq ?_
 ·rcases hcase with ⟨hlt, hr⟩ | ⟨e, _⟩
  case inr => omega
  rw [wRun_step (by omega)] at hr
  (repeat' (first | refine zS ?_ | refine zq5 ?_ | refine zq6 ?_))
  refine zT ?_ ?_ <;> intro h1 <;> refine zNq ?_
  ·have hn : W = none := by
    rw [← hr]
    rcases hsp with ⟨s1, rfl, rfl⟩ | ⟨s1, rfl, rfl⟩
    ·rcases hti with ⟨s2, rfl, rfl⟩ | ⟨s2, rfl, rfl⟩
     ·have f1 := f1 s1
      have f2 := f2 s2
      rcases h1 with (h1 | h1) | h1
      ·omega
      ·omega
      ·rw [if_neg (by rw [s1, s2]; simp), if_neg (by omega), if_neg h1.2]
     ·exact if_pos (.inr s2)
    ·exact if_pos (.inl s1)
   rw [hn]
   (repeat' (first | refine zS ?_ | refine zq5 ?_ | refine zq6 ?_ | (refine zT ?_ ?_ <;> intro h <;> first | exact zX | refine zNq ?_)))
   exact ret0 _ (.tup [.sl [], .int .i64 4]) rfl rfl (by (refine .inr (.inr (.inr (.inr (.inr ⟨_, _, rfl, rfl, ?_⟩)))); (repeat (first | exact True.intro | refine ⟨.inr (.inl rfl), ?_⟩ | refine ⟨.inr (.inr (.inl ⟨rfl, rfl⟩)), ?_⟩ | refine ⟨.inr (.inr (.inr (.inl ⟨_, _, _, _, _, _, rfl, rfl, rfl, rfl, rfl⟩))), ?_⟩ | refine ⟨.inr (.inr (.inr (.inr (.inl ⟨_, _, rfl, rfl, ?_⟩)))), ?_⟩)))) rfl
  ·have ha : 0 ≤ a := by omega
   have hc : 0 ≤ c := by omega
   rcases hsp with ⟨s1, rfl, rfl⟩ | ⟨s1, rfl, rfl⟩
   case inr => omega
   rcases hti with ⟨s2, rfl, rfl⟩ | ⟨s2, rfl, rfl⟩
   case inr => omega
   rw [if_neg (by rw [s1, s2]; simp)] at hr
   have f1 := f1 s1
   have f2 := f2 s2
   have hin2 := itemRs_in s1 s2
   have hil := itemRs_len (ws.getD (3 * n) []) (ws.getD (3 * n + 1) [])
   have htk := @itemRs_take (ws.getD (3 * n) []) (ws.getD (3 * n + 1) [])
   generalize hits : itemRs (ws.getD (3 * n) []) (ws.getD (3 * n + 1) []) = its at hr hin2 hil htk ⊢
   (repeat' (first | refine zS ?_ | refine zq5 ?_ | refine zq6 ?_))
   refine pw_for hD (fun x : Nat × Nat => [(4, .msl 2 0 0 ((out ++ its.take x.1).map eRng).length x.2), (10, .int .i64 (spanA (ws.getD (3 * n) []) + x.1))]) (fun x => [.arr 2 ((out ++ its.take x.1).map eRng) x.2])
    (fun x => x.1 ≤ its.length) (fun x => its.length - x.1) (0, cap) (Nat.zero_le _) 1 rfl (fun _ => rfl) (by simp only [List.take_zero, List.append_nil]; (exact zLes)) (fun _ => rfl) (fun _ => rfl) (by simp only [List.take_zero, List.append_nil, Int.natCast_zero, Int.add_zero]; (exact zLe)) ?_
   rintro ⟨k, cap2⟩ hk
   dsimp only at hk ⊢
   have htl : (its.take k).length ≤ k := List.length_take_le ..
   (repeat' (first | refine zS ?_ | refine zq5 ?_ | refine zq6 ?_ | (refine zT ?_ ?_ <;> intro h <;> first | exact zX | refine zNq ?_)))
   ·have hkl : k < its.length := by omega
    have hkn := htk hkl
    unfold dayR at hkn
    rw [Int.mul_comm (spanA (ws.getD (3 * n) []) + k) 1440] at hkn
    (refine pl_append (b := 8) hT hD rfl rfl rfl rfl rfl rfl rfl rfl (.inl (Nat.zero_lt_succ _)) rfl rfl (by simp; omega) (fun cap3 _ hcap => ?_); (refine zNp ?_))
    (repeat' (first | refine zS ?_ | refine zq5 ?_ | refine zq6 ?_ | (refine zT ?_ ?_ <;> intro h <;> first | exact zX | refine zNq ?_)))
    refine ⟨(k + 1, cap3), hkl, by show _ - (k + 1) < _ - k; omega, ?_, ?_⟩
    all_goals simp only [hkn, ← List.append_assoc, @List.map_append _ _ _ _ [_], List.length_append, List.map_cons, List.map_nil]
    ·rw [show spanA (ws.getD (3 * n) []) + ((k + 1 : Nat) : Int) = spanA (ws.getD (3 * n) []) + k + 1 by omega]
     (exact zLe)
    ·(exact zLes)
   ·have hke : k = its.length := by omega
    subst hke
    rw [List.take_length]
    refine ⟨(n + 1, out ++ its, cap2), ⟨fun r hr => ?_, by rw [List.length_append]; dsimp only; omega, ?_⟩, by dsimp only; omega, ?_, zLes⟩
    ·rcases List.mem_append.1 hr with hr | hr
     ·exact hin r hr
     ·exact (hin2 r hr).1
    ·by_cases h2 : ws.length ≤ 3 * n + 2
     ·rw [if_pos h2] at hr
      exact .inr ⟨by dsimp only; omega, hr.symm⟩
     ·rw [if_neg h2] at hr
      have hcm : ws.getD (3 * n + 2) [] = [44] := Decidable.not_not.1 fun q => h1 (.inr ⟨by omega, q⟩)
      rw [if_pos hcm] at hr
      exact .inl ⟨by dsimp only; omega, hr⟩
    ·dsimp only
     rw [show ((3 * (n + 1) : Nat) : Int) = ((3 * n : Nat) : Int) + 3 by omega]
     (exact zLe)
 ·rcases hcase with ⟨hlt, _⟩ | ⟨e, hr⟩
  ·omega
  subst hr
  unfold wEnd
  (repeat' (first | refine zS ?_ | refine zq5 ?_ | refine zq6 ?_))
  refine zT ?_ ?_ <;> intro h1 <;> refine zNq ?_
  ·dsimp only
   rw [if_pos (by omega)]
   (repeat' (first | refine zS ?_ | refine zq5 ?_ | refine zq6 ?_ | (refine zT ?_ ?_ <;> intro h <;> first | exact zX | refine zNq ?_)))
   exact ret0 _ (.tup [.sl [], .int .i64 3]) rfl rfl (by (refine .inr (.inr (.inr (.inr (.inr ⟨_, _, rfl, rfl, ?_⟩)))); (repeat (first | exact True.intro | refine ⟨.inr (.inl rfl), ?_⟩ | refine ⟨.inr (.inr (.inl ⟨rfl, rfl⟩)), ?_⟩ | refine ⟨.inr (.inr (.inr (.inl ⟨_, _, _, _, _, _, rfl, rfl, rfl, rfl, rfl⟩))), ?_⟩ | refine ⟨.inr (.inr (.inr (.inr (.inl ⟨_, _, rfl, rfl, ?_⟩)))), ?_⟩)))) rfl
  ·dsimp only
   rw [if_neg (by omega)]
   refine pw_skip ?_
   refine pw_frz1 0 4 rfl rfl rfl ?_
   refine zNq ?_
   (repeat' (first | refine zS ?_ | refine zq5 ?_ | refine zq6 ?_ | (refine zT ?_ ?_ <;> intro h <;> first | exact zX | refine zNq ?_)))
   (refine pl_op rfl (op_fun (c_ruunion out (by have := h1; omega) hin) rfl rfl e130 zLe rfl (fun r hr => ?_)); subst hr; refine ⟨rfl, ?_⟩; (refine zNp ?_))
   (repeat' (first | refine zS ?_ | refine zq5 ?_ | refine zq6 ?_ | (refine zT ?_ ?_ <;> intro h <;> first | exact zX | refine zNq ?_)))
   exact ret2 _ rfl rfl rfl
instance (ws : List Str) : ConF Tryz.prog Gl 87 [.sl (ws.map .str)] (ws.length < 1000000 ∧ ∀ k, (ws.getD k []).length < 4294967281) (.tup [.sl ((wParse ws).1.map eRng), .int .i64 (wParse ws).2]) := ⟨e87, fun h => c_rParse9 ws h.1 h.2⟩

end
end Go.Proofs.YtkaobkjcjodffaaGreatDoor