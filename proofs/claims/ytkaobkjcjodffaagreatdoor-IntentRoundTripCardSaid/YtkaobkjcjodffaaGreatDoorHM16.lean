/-
 Statements, published services, hidden groups are read back: plain.
 The words of a window are read back: plain.
 The text of a valid intent is read back as this intent: plain.
-/
import Derived.Test.YtkaobkjcjodffaaGreatDoorHK37
namespace Go.Proofs.YtkaobkjcjodffaaGreatDoor
open Go Go.Pw
section
theorem vname_any : vname [97, 110, 121] = false := by decide
theorem rdRef_name {s : Str} (h : okName s = true) : rdRef (nameS s) = (s, true) := by
 unfold rdRef nameS
 by_cases e : s = []
 ·subst e; rfl
 ·have hv := okName_v h e
  rw [if_neg e, if_neg (fun q => by rw [q, vname_any] at hv; cases hv), hv]
theorem rdStm_w {s : TStm} (h : vStm s = true) : rdStm (stmW s) = (0, s) := by
 obtain ⟨n1, n2, n3, n4, n5, n6, n7⟩ := stm_names h
 have hp := stm_prio h
 have hr : (s.permit = true ∨ s.cls = []) ∧ (s.excepted = true ∨ s.exSrc = [] ∧ s.exDst = []) := by
  unfold vStm stmRest at h
  simp only [Bool.and_eq_true, Bool.or_eq_true, beq_iff_eq] at h
  exact h.2.1.1
 have r1 := rdRef_name n1
 have r2 := rdRef_name n2
 have r3 := rdRef_name n3
 have r6 := rdRef_name n6
 have r7 := rdRef_name n7
 have hn := number_decI s.prio 0 1000 hp.1 hp.1 hp.2 (by omega)
 have hd := digitsB_dec s.prio.toNat
 have v4 := fun q => okName_v n4 q
 have v5 := fun q => okName_v n5 q
 obtain ⟨pm, src, dst, service, ex, exs, exd, cls, during, prio⟩ := s
 dsimp only at *
 obtain ⟨hr1, hr2⟩ := hr
 by_cases c : cls = [] <;> by_cases d : during = [] <;> by_cases p : prio = 0 <;> cases ex <;> cases pm
 all_goals
  simp only [Bool.false_eq_true, false_or, true_or] at hr1 hr2
 all_goals
  first
  | (exact absurd hr1 c)
  | skip
 all_goals
  simp [stmW, stmW3, stmW2, stmW1, stmW0, rdStm, sHead, sExc, sVia, sDur, sPri, r1, r2, r3, r6, r7, hn, hd, c, d, p, hr2, v4, v5]
theorem addr_i {a : Int} (h : 0 ≤ a ∧ a < 4294967296) : addr (addrS a.toNat) = (a, true) := by
 rw [addr_addrS a.toNat (by omega), Int.toNat_of_nonneg h.1]
theorem pPub_w {L : List TPub} {k : Nat} (hk : k < L.length) (h16 : L.length ≤ 16) (h : vPub (L.getD k default) = true) (hi : (0 ≤ (L.getD k default).addr ∧ (L.getD k default).addr < 4294967296) ∧ 0 ≤ (L.getD k default).real ∧ (L.getD k default).real < 4294967296) : pPub (L.take k) (pubW (L.getD k default)) = (0, L.take (k + 1)) := by
 obtain ⟨h1, h2, h3, h4⟩ := pub_f h
 have ht : L.take (k + 1) = L.take k ++ [L.getD k default] := by rw [List.take_succ_eq_append_getElem hk, List.getD, List.getElem?_eq_getElem hk]; rfl
 rw [ht]
 generalize L.getD k default = p at *
 have f : formB (pubW p) pubF = true := by
  unfold pubW
  split <;> simp [formB, eqf, pubF, formP]
 have e1 : (pubW p).getD 1 [] = addrS p.addr.toNat := rfl
 have e2 : (pubW p).getD 2 [] = if p.proto = 17 then [117, 100, 112] else [116, 99, 112] := rfl
 have e3 : (pubW p).getD 3 [] = dec p.port.toNat := rfl
 have e5 : (pubW p).getD 5 [] = p.edge := rfl
 have e7 : (pubW p).getD 7 [] = addrS p.real.toNat := rfl
 have e8 : (pubW p).getD 8 [] = dec p.realPort.toNat := rfl
 have hpr : protoOf (if p.proto = 17 then [117, 100, 112] else [116, 99, 112]) = p.proto := by
  rcases h1 with q | q <;> rw [q] <;> decide
 have hn1 := number_decI p.port 0 65535 h2.1 h2.1 h2.2 (by omega)
 have hn2 := number_decI p.realPort 0 65535 h3.1 h3.1 h3.2 (by omega)
 unfold pPub
 rw [f, e1, e2, e3, e5, e7, e8, hpr, addr_i hi.1, addr_i hi.2, hn1, hn2, h4, digitsB_dec, digitsB_dec, List.length_take]
 rw [if_neg (by simp), if_neg (by rintro ((q | q) | q); omega; exact q rfl; exact q rfl), if_neg (by simp), if_neg (by omega)]
theorem pHid_w {L : List THid} {k : Nat} (hk : k < L.length) (h8 : L.length ≤ 8) (h : vHid (L.getD k default) = true) (hi : 0 ≤ (L.getD k default).addr ∧ (L.getD k default).addr < 4294967296) : pHid (L.take k) (hidW (L.getD k default)) = (0, L.take (k + 1)) := by
 obtain ⟨h1, h2, h3, h4, h5⟩ := hid_f h
 have hpi := hid_pin h
 have ht : L.take (k + 1) = L.take k ++ [L.getD k default] := by rw [List.take_succ_eq_append_getElem hk, List.getD, List.getElem?_eq_getElem hk]; rfl
 rw [ht]
 generalize L.getD k default = p at *
 have f : formB (hidW p) hidF = true := by
  unfold hidW
  simp [formB, eqf, hidF, formP]
 have e1 : (hidW p).getD 1 [] = p.group := rfl
 have e3 : (hidW p).getD 3 [] = p.edge := rfl
 have e5 : (hidW p).getD 5 [] = addrS p.addr.toNat := rfl
 have e7 : (hidW p).getD 7 [] = spanS p.ports := rfl
 unfold pHid
 rw [f, e1, e3, e5, e7, addr_i hi, portsT_span hpi h4, h1, h2, List.length_take]
 rw [if_neg (by simp), if_neg (by simp), if_neg (by dsimp only; omega), if_neg (by omega)]
theorem pStm_w {L : List TStm} {k : Nat} (hk : k < L.length) (h64 : L.length ≤ 64) (h : vStm (L.getD k default) = true) : pStm (L.take k) (stmW (L.getD k default)) = (0, L.take (k + 1)) := by
 have ht : L.take (k + 1) = L.take k ++ [L.getD k default] := by rw [List.take_succ_eq_append_getElem hk, List.getD, List.getElem?_eq_getElem hk]; rfl
 unfold pStm
 rw [rdStm_w h, if_neg (by simp), if_neg (by rw [List.length_take]; omega), ht]
theorem clock_time : ∀ n : Fin 1441, clock (timeS (n.val : Int)) = (n.val : Int) := by decide +kernel
theorem clock_timeS {n : Int} (h : 0 ≤ n ∧ n ≤ 1440) : clock (timeS n) = n := by
 have := clock_time ⟨n.toNat, by omega⟩
 rwa [Int.toNat_of_nonneg h.1] at this
theorem time_dash {n : Int} (h : n ≤ 1440) : (45 : UInt8) ∉ timeS n := by
 have hd : ∀ d : Fin 10, UInt8.ofNat (48 + d.val) ≠ 45 := by decide
 intro hm
 simp only [timeS, twoS, List.mem_append, List.mem_cons, List.mem_nil_iff, or_false] at hm
 rcases hm with ((hm | hm) | hm) | hm | hm
 ·exact hd ⟨(n / 60).toNat / 10, by omega⟩ hm.symm
 ·exact hd ⟨(n / 60).toNat % 10, by omega⟩ hm.symm
 ·revert hm; decide
 ·exact hd ⟨(n % 60).toNat / 10, by omega⟩ hm.symm
 ·exact hd ⟨(n % 60).toNat % 10, by omega⟩ hm.symm
theorem day_ix : ∀ d : Fin 7, dayIx (dayNames.getD d.val []) = (d.val : Int) ∧ (45 : UInt8) ∉ dayNames.getD d.val [] := by decide
def Pc (p : Nat × TRng) : Prop := p.1 < 7 ∧ (p.1 : Int) * 1440 ≤ p.2.lo ∧ p.2.lo ≤ p.2.hi ∧ p.2.hi < p.1 * 1440 + 1440
def wI (p : Nat × TRng) : List Str := wItem p.1 p.2
def wJ : List (Nat × TRng) → List Str
 | [] => []
 | [p] => wI p
 | p :: q :: ps => wI p ++ [44] :: wJ (q :: ps)
theorem wI_ok {p : Nat × TRng} (h : Pc p) : ∃ d t, wI p = [d, t] ∧ spanOk d = true ∧ timeOk t = true ∧ itemRs d t = [p.2] := by
 obtain ⟨h1, h2, h3, h4⟩ := h
 obtain ⟨d1, d2⟩ := day_ix ⟨p.1, h1⟩
 have ea : spanA (dayNames.getD p.1 []) = p.1 := by unfold spanA; rw [cut_no d2]; exact d1
 have eb : spanB (dayNames.getD p.1 []) = p.1 := by unfold spanB; rw [cut_no d2]; exact d1
 have ec := cut_yes (b := timeS (p.2.hi - p.1 * 1440 + 1)) (time_dash (n := p.2.lo - p.1 * 1440) (by omega))
 have et : timeS (p.2.lo - p.1 * 1440) ++ [45] ++ timeS (p.2.hi - p.1 * 1440 + 1) = timeS (p.2.lo - p.1 * 1440) ++ 45 :: timeS (p.2.hi - p.1 * 1440 + 1) := by simp
 have ta : timeA (timeS (p.2.lo - p.1 * 1440) ++ [45] ++ timeS (p.2.hi - p.1 * 1440 + 1)) = p.2.lo - p.1 * 1440 := by
  unfold timeA; rw [et, ec]; exact clock_timeS (by omega)
 have tb : timeB (timeS (p.2.lo - p.1 * 1440) ++ [45] ++ timeS (p.2.hi - p.1 * 1440 + 1)) = p.2.hi - p.1 * 1440 + 1 := by
  unfold timeB; rw [et, ec]; exact clock_timeS (by omega)
 refine ⟨_, _, rfl, ?_, ?_, ?_⟩
 ·unfold spanOk; rw [ea, eb]; simp
 ·unfold timeOk; rw [ta, tb]; simp; omega
 ·unfold itemRs
  rw [ea, eb, ta, tb, show ((p.1 : Int) - p.1 + 1).toNat = 1 by omega]
  obtain ⟨d, lo, hi⟩ := p
  simp only [List.range_one, List.map_cons, List.map_nil, dayR, List.cons.injEq, and_true, TRng.mk.injEq]
  constructor <;> omega
theorem wRun_J : ∀ (ps : List (Nat × TRng)) (out : List TRng) (n : Nat), ps ≠ [] → (∀ p ∈ ps, Pc p) → wRun (wJ ps) out n = some (out ++ ps.map (·.2), n + ps.length)
 | [], _, _, h, _ => (h rfl).elim
 | [p], out, n, _, hp => by
  obtain ⟨d, t, e, h1, h2, h3⟩ := wI_ok (hp p (List.mem_cons_self ..))
  rw [wJ, e, wRun, h1, h2, h3]
  simp
 | p :: q :: ps, out, n, _, hp => by
  obtain ⟨d, t, e, h1, h2, h3⟩ := wI_ok (hp p (List.mem_cons_self ..))
  have ih := wRun_J (q :: ps) (out ++ [p.2]) (n + 1) (by simp) fun x hx => hp x (List.mem_cons_of_mem _ hx)
  rw [wJ, e]
  show wRun (d :: t :: [44] :: wJ (q :: ps)) out n = _
  rw [wRun, h1, h2, h3]
  simp only [Bool.true_eq_false, or_self, if_false, if_true]
  rw [ih]
  simp
  omega
theorem wI_ne (p : Nat × TRng) : 0 < (wI p).length := by simp [wI, wItem]
theorem fold_J : ∀ (ps : List (Nat × TRng)) (o : List Str), 0 < o.length → ps ≠ [] → ps.foldl (fun o p => wPut p.1 o p.2) o = o ++ [44] :: wJ ps
 | [], _, _, h => (h rfl).elim
 | [p], o, ho, _ => by
  show wPut p.1 o p.2 = _
  unfold wPut
  rw [if_pos ho]
  simp [wJ, wI]
 | p :: q :: ps, o, ho, _ => by
  rw [List.foldl_cons]
  have e : wPut p.1 o p.2 = (o ++ [[44]]) ++ wI p := by unfold wPut; rw [if_pos ho]; rfl
  rw [e, fold_J (q :: ps) _ (by simp; omega) (by simp), wJ]
  simp
theorem fold_J0 (ps : List (Nat × TRng)) : ps.foldl (fun o p => wPut p.1 o p.2) [] = wJ ps := by
 match ps with
 | [] => rfl
 | [p] => simp [wPut, wJ, wI]
 | p :: q :: ps =>
  rw [List.foldl_cons]
  have e : wPut p.1 [] p.2 = wI p := by simp [wPut, wI]
  rw [e, fold_J (q :: ps) _ (wI_ne p) (by simp), wJ]
def pcs (l : List TRng) (n : Nat) : List (Nat × TRng) := (List.range n).flatMap fun d => (wDay l d).map fun r => (d, r)
theorem wDays_fold (l : List TRng) : ∀ n, wDays l n = (pcs l n).foldl (fun o p => wPut p.1 o p.2) []
 | 0 => rfl
 | n + 1 => by
  have e : pcs l (n + 1) = pcs l n ++ (wDay l n).map fun r => (n, r) := by unfold pcs; rw [List.range_succ, List.flatMap_append]; simp
  rw [wDays_succ, wDays_fold l n, e, List.foldl_append, List.foldl_map]
theorem pcs_pc (l : List TRng) {p : Nat × TRng} (h : p ∈ pcs l 7) : Pc p := by
 unfold pcs at h
 obtain ⟨d, hd, hp⟩ := List.mem_flatMap.1 h
 obtain ⟨r, hr, rfl⟩ := List.mem_map.1 hp
 exact ⟨List.mem_range.1 hd, wDay_in l d r hr⟩
theorem pcs_mem (l : List TRng) (hl : ∀ r ∈ l, 0 ≤ r.lo ∧ r.hi ≤ 10079) (v : Int) : mem l v ↔ mem ((pcs l 7).map (·.2)) v := by
 constructor
 ·intro h
  obtain ⟨r, hr, h1, h2⟩ := h
  have hb := hl r hr
  have hm : mem (wDay l (v / 1440).toNat) v := by
   unfold wDay
   rw [isect_mem]
   refine ⟨⟨r, hr, h1, h2⟩, _, List.mem_singleton.2 rfl, ?_, ?_⟩
   ·show (((v / 1440).toNat : Nat) : Int) * 1440 ≤ v; omega
   ·show v ≤ (((v / 1440).toNat : Nat) : Int) * 1440 + 1440 - 1; omega
  obtain ⟨r', hr', h3, h4⟩ := hm
  refine ⟨r', List.mem_map.2 ⟨((v / 1440).toNat, r'), List.mem_flatMap.2 ⟨_, List.mem_range.2 (by omega), List.mem_map.2 ⟨r', hr', rfl⟩⟩, rfl⟩, h3, h4⟩
 ·rintro ⟨r, hr, h1, h2⟩
  obtain ⟨⟨d, r'⟩, hp, rfl⟩ := List.mem_map.1 hr
  obtain ⟨d', _, hp⟩ := List.mem_flatMap.1 hp
  obtain ⟨r2, hr2, e⟩ := List.mem_map.1 hp
  cases e
  have : mem (wDay l d) v := ⟨r', hr2, h1, h2⟩
  unfold wDay at this
  exact ((isect_mem _ _ v).1 this).1
theorem wJ_len : ∀ ps : List (Nat × TRng), ps ≠ [] → (wJ ps).length + 1 = 3 * ps.length
 | [], h => (h rfl).elim
 | [p], _ => by simp [wJ, wI, wItem]
 | p :: q :: ps, _ => by
  have := wJ_len (q :: ps) (by simp)
  simp only [wJ, wI, wItem, List.length_append, List.length_cons, List.length_nil] at this ⊢
  omega
theorem wParse_wFormat {l : List TRng} (h : wOkB l = true) (hi : ∀ r ∈ l, RIn r) : wParse (wFormat l) = (l, 0) := by
 have hlen := wOk_len h
 unfold wOkB at h
 simp only [Bool.and_eq_true, decide_eq_true_eq] at h
 unfold wFormat at hlen h ⊢
 by_cases hv : ivalid l 10079 = true
 case neg => rw [if_neg hv] at hlen; simp at hlen
 rw [if_pos hv] at hlen h ⊢
 by_cases he : l = []
 ·rw [if_pos he, he]; rfl
 rw [if_neg he] at hlen h ⊢
 obtain ⟨hc, hh⟩ := can_ivalid hv
 have e : wDays l 7 = wJ (pcs l 7) := (wDays_fold l 7).trans (fold_J0 _)
 rw [e] at hlen h ⊢
 have hp : pcs l 7 ≠ [] := fun q => by rw [q] at hlen; simp [wJ] at hlen
 have hw := wJ_len _ hp
 have hps : (pcs l 7).length ≤ 16 := by omega
 have hp1 : 1 ≤ (pcs l 7).length := by
  cases hq : pcs l 7 with
  | nil => exact (hp hq).elim
  | cons a b => simp
 unfold wParse
 rw [if_neg (fun q => by rw [q] at hw; simp at hw; omega), wRun_J _ [] 0 hp fun p hp => pcs_pc l hp]
 unfold wEnd
 rw [List.nil_append]
 show (if 0 + (pcs l 7).length > 16 then (([] : List TRng), (3 : Int)) else (canon ((pcs l 7).map (·.2)), 0)) = _
 rw [if_neg (by omega)]
 have hu := canon_uniq hc (pcs_mem l fun r hr => ⟨(hi r hr).1.1, hh r hr⟩)
 rw [← hu]
theorem pWin_w {L : List TWin} {k : Nat} (hk : k < L.length) (h32 : L.length ≤ 32) (hn : vname (L.getD k default).name = true) (hf : firstAt (fun x : TWin => x.name == (L.getD k default).name) L = k) (ho : wOkB (L.getD k default).active = true) (hi : ∀ r ∈ (L.getD k default).active, RIn r) : pWin (L.take k) (winW (L.getD k default)) = (0, L.take (k + 1)) := by
 have ht : L.take (k + 1) = L.take k ++ [L.getD k default] := by rw [List.take_succ_eq_append_getElem hk, List.getD, List.getElem?_eq_getElem hk]; rfl
 have hf' : firstAt (fun x : TWin => x.name == (L.getD k default).name) (L.take k) = -1 := firstAt_done hf
 rw [ht]
 generalize L.getD k default = w at *
 have e1 : (winW w).getD 1 [] = w.name := rfl
 have e2 : (winW w).getD 2 [] = [61] := rfl
 have e3 : (winW w).drop 3 = wFormat w.active := rfl
 have hl : 3 ≤ (winW w).length := by unfold winW; simp
 unfold pWin
 rw [e1, e2, e3, wParse_wFormat ho hi, hn, hf', ho, List.length_take]
 rw [if_neg (by rintro ((q | q) | q); omega; exact q rfl; exact q rfl), if_neg (by simp), if_neg (by simp), if_neg (by decide), if_neg (by omega)]
def mbyte (c : UInt8) : Bool := lbyte c || (c == 44 || c == 61)
theorem mbyte_ok {c : UInt8} (h : mbyte c = true) : noHash c = true ∧ pbyte c = true ∧ c ≠ 10 := by
 unfold mbyte at h
 rcases Bool.or_eq_true_iff.1 h with h | h
 ·exact lbyte_ok h
 ·rcases Bool.or_eq_true_iff.1 h with h | h
  ·obtain rfl : c = 44 := by simpa using h
   exact ⟨by decide, by decide, by decide⟩
  ·obtain rfl : c = 61 := by simpa using h
   exact ⟨by decide, by decide, by decide⟩
theorem word_mbyte {s : Str} (h : GW s ∨ Sp s) : ∀ c ∈ s, mbyte c = true := by
 intro c hc
 rcases h with h | h | h
 ·unfold mbyte lbyte; rw [h.all c hc]; rfl
 ·rw [h, List.mem_singleton] at hc; subst hc; decide
 ·rw [h, List.mem_singleton] at hc; subst hc; decide
theorem joinW_mbyte : ∀ (w : List Str) (k : Nat), (∀ s ∈ w, GW s ∨ Sp s) → ∀ c ∈ joinW k w, mbyte c = true
 | [], k, _, c, hc => by cases k <;> simp [joinW] at hc
 | s :: w, k, h, c, hc => by
  have h1 := word_mbyte (h s (List.mem_cons_self ..))
  have h2 := fun j => joinW_mbyte w j fun x hx => h x (List.mem_cons_of_mem _ hx)
  cases k with
  | zero =>
   simp only [joinW, List.mem_append] at hc
   rcases hc with hc | hc
   ·exact h1 c hc
   ·exact h2 1 c hc
  | succ k =>
   simp only [joinW, List.mem_append, List.mem_singleton] at hc
   rcases hc with (hc | hc) | hc
   ·subst hc; decide
   ·exact h1 c hc
   ·exact h2 (k + 2) c hc
theorem rwords_word2 {s : Str} (h : GW s ∨ Sp s) (r : Str) (hr : ∀ c r', r = c :: r' → isWord c = false) : rwords (s ++ r) = s :: rwords r := by
 rcases h with h | h | h
 ·exact rwords_word h r hr
 ·rw [h]; show rwords (44 :: r) = _; rw [rwords_cons]; rfl
 ·rw [h]; show rwords (61 :: r) = _; rw [rwords_cons]; rfl
theorem joinW_head (w : List Str) (k : Nat) : ∀ c r', joinW (k + 1) w = c :: r' → isWord c = false := by
 intro c r' hc
 cases w with
 | nil => simp [joinW] at hc
 | cons y w => simp [joinW] at hc; rw [← hc.1]; rfl
theorem rwords_join2 : ∀ (w : List Str) (k : Nat), (∀ s ∈ w, GW s ∨ Sp s) → rwords (joinW (k + 1) w) = w
 | [], k, _ => rfl
 | s :: w, k, h => by
  have e : joinW (k + 1) (s :: w) = 32 :: (s ++ joinW (k + 2) w) := by simp [joinW]
  rw [e, rwords_cons, show isBlank 32 = true from rfl]
  show rwords (s ++ joinW (k + 2) w) = _
  rw [rwords_word2 (h s (List.mem_cons_self ..)) _ (joinW_head w (k + 1)), rwords_join2 w (k + 1) fun x hx => h x (List.mem_cons_of_mem _ hx)]
theorem words_join2 (w : List Str) (h : ∀ s ∈ w, GW s ∨ Sp s) : words (joinW 0 w) = w := by
 rw [words_rw]
 have e : (joinW 0 w).takeWhile noHash = joinW 0 w := by
  have := (takeWhile_all (p := noHash) (l := joinW 0 w) (fun c hc => (mbyte_ok (joinW_mbyte w 0 h c hc)).1) [] (by intro c r' e; cases e)).1
  simpa using this
 rw [e]
 cases w with
 | nil => rfl
 | cons s w => rw [joinW, rwords_word2 (h s (List.mem_cons_self ..)) _ (joinW_head w 0), rwords_join2 w 0 fun x hx => h x (List.mem_cons_of_mem _ hx)]
structure MGood (l : List TLine) : Prop where
 some : ∀ x ∈ l, 0 < x.words.length
 few : ∀ x ∈ l, x.words.length ≤ 64
 good : ∀ x ∈ l, ∀ s ∈ x.words, GW s ∨ Sp s
theorem MGood.tail {x : TLine} {l : List TLine} (h : MGood (x :: l)) : MGood l := ⟨fun y hy => h.some y (List.mem_cons_of_mem _ hy), fun y hy => h.few y (List.mem_cons_of_mem _ hy), fun y hy => h.good y (List.mem_cons_of_mem _ hy)⟩
theorem parts_text2 : ∀ (l : List TLine), MGood l → parts 10 (textS l) = (l.map fun x => joinW 0 x.words) ++ [[]]
 | [], _ => rfl
 | x :: l, h => by
  have e : textS (x :: l) = joinW 0 x.words ++ 10 :: textS l := by simp [textS, lineS]
  have hn : (10 : UInt8) ∉ joinW 0 x.words := fun hc => (mbyte_ok (joinW_mbyte x.words 0 (h.good x (List.mem_cons_self ..)) 10 hc)).2.2 rfl
  rw [e, parts, parts_some hn, parts_text2 l h.tail]
  rfl
theorem lrun_text2 : ∀ (l : List TLine) (i : Nat) (out : List TLine), MGood l → lrun ((l.map fun x => joinW 0 x.words) ++ [[]]) i out = (out ++ numF i l, 0, 0)
 | [], i, out, _ => by
  show lrun [[]] i out = _
  have : words [] = [] := rfl
  simp [lrun, this, numF]
 | x :: l, i, out, h => by
  have hg := h.good x (List.mem_cons_self ..)
  have hw := words_join2 x.words hg
  have h1 := h.some x (List.mem_cons_self ..)
  have h2 := h.few x (List.mem_cons_self ..)
  have hp : (joinW 0 x.words).all pbyte = true := List.all_eq_true.2 fun c hc => (mbyte_ok (joinW_mbyte x.words 0 hg c hc)).2.1
  rw [List.map_cons, List.cons_append, lrun, hp, hw, decide_eq_false (show ¬ (x.words.length : Int) > 64 by omega), decide_eq_true (show (x.words.length : Int) > 0 by omega)]
  simp only [Bool.not_true, Bool.false_eq_true, if_false, if_true]
  rw [lrun_text2 l (i + 1) _ h.tail, numF]
  simp
theorem lines_text2 (l : List TLine) (h : MGood l) (hb : (textS l).length ≤ 16384) : lines (textS l) = (numF 0 l, 0, 0) := by
 unfold lines
 rw [decide_eq_false (show ¬ ((textS l).length : Int) > 16384 by omega), splitAt_parts, parts_text2 l h, lrun_text2 l 0 [] h]
 rfl
theorem iLines_good {i : TInt} (h : IV i) (hi : IIn i) : MGood (iLines i) :=
 ⟨fun x hx => (iLines_fl h hi x hx).some, fun x hx => Nat.le_trans (iLines_fl h hi x hx).few (by decide), fun x hx s hs => ((iLines_fl h hi x hx).each s hs).good⟩
def iW : List (List Str) → TInt → Option TInt
 | [], i => some i
 | w :: ws, i => if (iLine i w).1 = 0 then iW ws (iLine i w).2 else none
theorem iW_append : ∀ (a b : List (List Str)) (i : TInt), iW (a ++ b) i = (iW a i).bind (iW b)
 | [], b, i => rfl
 | w :: a, b, i => by
  rw [List.cons_append, iW, iW]
  split
  ·exact iW_append a b _
  ·rfl
theorem iRun_iW : ∀ (ls : List TLine) (i i' : TInt), iW (ls.map TLine.words) i = some i' → iRun ls i = (i', 0, 0)
 | [], i, i', h => by cases h; rfl
 | l :: ls, i, i', h => by
  rw [List.map_cons, iW] at h
  split at h
  ·rename_i h0
   rw [iRun, if_neg (not_not_intro h0)]
   exact iRun_iW ls _ _ h
  ·cases h
theorem iW_part {α : Type} [Inhabited α] {L : List α} {f : α → List Str} {P : List α → TInt} (h : ∀ k, k < L.length → iLine (P (L.take k)) (f (L.getD k default)) = (0, P (L.take (k + 1)))) : ∀ (n k : Nat), k + n = L.length → iW ((L.drop k).map f) (P (L.take k)) = some (P L)
 | 0, k, hk => by
  rw [List.drop_eq_nil_of_le (by omega), List.take_of_length_le (by omega)]; rfl
 | n + 1, k, hk => by
  have hlt : k < L.length := by omega
  have := h k hlt
  rw [List.getD, List.getElem?_eq_getElem hlt] at this
  rw [List.drop_eq_getElem_cons hlt, List.map_cons, iW]
  show (if (iLine (P (L.take k)) (f L[k])).1 = 0 then iW _ (iLine (P (L.take k)) (f L[k])).2 else none) = _
  rw [show iLine (P (L.take k)) (f L[k]) = (0, P (L.take (k + 1))) from this, if_pos rfl]
  exact iW_part h n (k + 1) (by omega)
theorem iW_all {i : TInt} (h : IV i) (hi : IIn2 i) : iW ((iLines i).map TLine.words) int0 = some i := by
 have g1 : iW ((lGroups i).map TLine.words) int0 = some ⟨i.groups, [], [], [], [], []⟩ := by
  have := iW_part (L := i.groups) (f := defW true) (P := fun l => ⟨l, [], [], [], [], []⟩) (fun k hk => by
   have e := pDef_w (g := true) h.gs hi.gits hk
   have e' : pDef (i.groups.take k) (defW true (i.groups.getD k default)) false = (0, i.groups.take (k + 1)) := e
   unfold iLine
   rw [show (defW true (i.groups.getD k default)).getD 0 [] = [103, 114, 111, 117, 112] from rfl, if_pos rfl]
   rw [e']) i.groups.length 0 (by omega)
  simpa [lGroups, int0, List.map_map, Function.comp_def, ln] using this
 have g2 : iW ((lServices i).map TLine.words) ⟨i.groups, [], [], [], [], []⟩ = some ⟨i.groups, i.services, [], [], [], []⟩ := by
  have := iW_part (L := i.services) (f := defW false) (P := fun l => ⟨i.groups, l, [], [], [], []⟩) (fun k hk => by
   have e := pDef_w (g := false) h.ss hi.sits hk
   have e' : pDef (i.services.take k) (defW false (i.services.getD k default)) true = (0, i.services.take (k + 1)) := e
   unfold iLine
   rw [show (defW false (i.services.getD k default)).getD 0 [] = [115, 101, 114, 118, 105, 99, 101] from rfl, if_neg (by decide), if_pos rfl]
   rw [e']) i.services.length 0 (by omega)
  simpa [lServices, List.map_map, Function.comp_def, ln] using this
 have g3 : iW ((lWindows i).map TLine.words) ⟨i.groups, i.services, [], [], [], []⟩ = some ⟨i.groups, i.services, i.windows, [], [], []⟩ := by
  have := iW_part (L := i.windows) (f := winW) (P := fun l => ⟨i.groups, i.services, l, [], [], []⟩) (fun k hk => by
   have hm := getD_memD hk
   have e := pWin_w hk h.wl (h.wname _ hm) (h.wfirst k hk) (h.wok _ hm) (hi.wins _ hm).2
   unfold iLine
   rw [show (winW (i.windows.getD k default)).getD 0 [] = [119, 105, 110, 100, 111, 119] from rfl, if_neg (by decide), if_neg (by decide), if_pos rfl]
   rw [e]) i.windows.length 0 (by omega)
  simpa [lWindows, List.map_map, Function.comp_def, ln] using this
 have g4 : iW ((lStms i).map TLine.words) ⟨i.groups, i.services, i.windows, [], [], []⟩ = some ⟨i.groups, i.services, i.windows, i.stms, [], []⟩ := by
  have := iW_part (L := i.stms) (f := stmW) (P := fun l => ⟨i.groups, i.services, i.windows, l, [], []⟩) (fun k hk => by
   have e := pStm_w hk h.sl (h.stms _ (getD_memD hk))
   have h0 : (stmW (i.stms.getD k default)).getD 0 [] = if (i.stms.getD k default).permit then [97, 108, 108, 111, 119] else [100, 101, 110, 121] := by
    unfold stmW stmW3 stmW2 stmW1 stmW0
    simp
   unfold iLine
   rw [h0]
   cases hp : (i.stms.getD k default).permit <;> simp only [Bool.false_eq_true, if_false, if_true]
   ·rw [if_neg (by decide), if_neg (by decide), if_neg (by decide), if_neg (by decide), e]
   ·rw [if_neg (by decide), if_neg (by decide), if_neg (by decide), e]) i.stms.length 0 (by omega)
  simpa [lStms, List.map_map, Function.comp_def, ln] using this
 have g5 : iW ((lPubs i).map TLine.words) ⟨i.groups, i.services, i.windows, i.stms, [], []⟩ = some ⟨i.groups, i.services, i.windows, i.stms, i.pubs, []⟩ := by
  have := iW_part (L := i.pubs) (f := pubW) (P := fun l => ⟨i.groups, i.services, i.windows, i.stms, l, []⟩) (fun k hk => by
   have hm := getD_memD hk
   have e := pPub_w hk h.pl (h.pubs _ hm) (hi.pins _ hm)
   unfold iLine
   rw [show (pubW (i.pubs.getD k default)).getD 0 [] = [112, 117, 98, 108, 105, 115, 104] from rfl, if_neg (by decide), if_neg (by decide), if_neg (by decide), if_neg (by decide), if_neg (by decide), if_pos rfl, e]) i.pubs.length 0 (by omega)
  simpa [lPubs, List.map_map, Function.comp_def, ln] using this
 have g6 : iW ((lHids i).map TLine.words) ⟨i.groups, i.services, i.windows, i.stms, i.pubs, []⟩ = some i := by
  have := iW_part (L := i.hids) (f := hidW) (P := fun l => ⟨i.groups, i.services, i.windows, i.stms, i.pubs, l⟩) (fun k hk => by
   have hm := getD_memD hk
   have e := pHid_w hk h.hl (h.hids _ hm) (hi.hins _ hm)
   unfold iLine
   rw [show (hidW (i.hids.getD k default)).getD 0 [] = [104, 105, 100, 101] from rfl, if_neg (by decide), if_neg (by decide), if_neg (by decide), if_neg (by decide), if_neg (by decide), if_neg (by decide), if_pos rfl, e]) i.hids.length 0 (by omega)
  simpa [lHids, List.map_map, Function.comp_def, ln] using this
 unfold iLines
 simp only [List.map_append, iW_append, g1, g2, g3, g4, g5, Option.bind_some]
 exact g6
theorem iParse_text {i : TInt} (h : iValid i = true) (hi : IIn2 i) (hb : (textS (iLines i)).length ≤ 16384) : iParse (textS (iLines i)) = (i, 0, 0) := by
 have hv := iValid_v h
 unfold iParse
 rw [lines_text2 _ (iLines_good hv hi.toIIn) hb, if_neg (not_not_intro rfl)]
 refine iRun_iW _ _ _ ?_
 rw [numF_words]
 exact iW_all hv hi

end
end Go.Proofs.YtkaobkjcjodffaaGreatDoor