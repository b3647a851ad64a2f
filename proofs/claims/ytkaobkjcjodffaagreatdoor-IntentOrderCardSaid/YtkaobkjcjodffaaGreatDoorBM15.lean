/-
 The words of items, statements, published services and hidden groups are read back: plain.
 Statements, published services, hidden groups are read back: plain.
 The words of a window are read back: plain.
 The windows that the generators make have a text: plain.
 The text of a valid intent is read back as this intent: plain.
-/
import Derived.Test.YtkaobkjcjodffaaGreatDoorBM11
import Derived.Test.YtkaobkjcjodffaaGreatDoorBM7
import Derived.Test.YtkaobkjcjodffaaGreatDoorBK38
namespace Go.Proofs.YtkaobkjcjodffaaGreatDoor
open Go Go.Pw
section
theorem number_decI (n a b : Int) (h0 : 0 ≤ n) (h1 : a ≤ n) (h2 : n ≤ b) (h3 : n < 1000000) : number (dec n.toNat) a b = (n, true) := by
 have hl : (dec n.toNat).length ≤ 6 := dec_len 5 n.toNat (by omega)
 have hh : nhead (dec n.toNat) b = false := by
  unfold nhead
  rw [zhead_dec, decide_eq_false (show ¬ ((dec n.toNat).length : Int) > 19 by omega), decide_eq_false (show ¬ b < 0 by omega)]
  simpa using dec_ne n.toNat
 unfold number
 rw [hh, dec_dig, dval_dec, decide_eq_false (show ¬ ((n.toNat : Nat) : Int) > b by omega), decide_eq_false (show ¬ ((n.toNat : Nat) : Int) < a by omega), Int.toNat_of_nonneg h0]
 rfl
theorem split_uniq {c : UInt8} : ∀ {a a' b b' : Str}, c ∉ a → c ∉ a' → a ++ c :: b = a' ++ c :: b' → a = a' ∧ b = b'
 | [], [], _, _, _, _, h => by simp at h; exact ⟨rfl, h⟩
 | [], x :: a', _, _, _, h2, h => by
  simp at h
  exact (h2 (by rw [h.1]; simp)).elim
 | x :: a, [], _, _, h1, _, h => by
  simp at h
  exact (h1 (by rw [← h.1]; simp)).elim
 | x :: a, y :: a', _, _, h1, h2, h => by
  simp at h
  obtain ⟨e, f⟩ := split_uniq (fun q => h1 (List.mem_cons_of_mem _ q)) (fun q => h2 (List.mem_cons_of_mem _ q)) h.2
  exact ⟨by rw [h.1, e], f⟩
theorem cut_no {c : UInt8} {s : Str} (h : c ∉ s) : Lib.cut s [c] = (s, [], false) := by
 rcases cut_cases c s with ⟨_, h2, _⟩ | ⟨a, b, h1, _, _, _⟩
 ·exact h2
 ·exact (h (by rw [h1]; simp)).elim
theorem cut_yes {c : UInt8} {a b : Str} (h : c ∉ a) : Lib.cut (a ++ c :: b) [c] = (a, b, true) := by
 rcases cut_cases c (a ++ c :: b) with ⟨h1, _, _⟩ | ⟨a', b', h1, h2, h3, _⟩
 ·exact (h1 (by simp)).elim
 ·obtain ⟨rfl, rfl⟩ := split_uniq h h2 h1
  exact h3
theorem dash_no (n : Nat) : (45 : UInt8) ∉ dec n := dec_no (by decide) n
theorem portsT_span {r : TRng} (h : PIn2 r) (hle : r.lo ≤ r.hi) : portsT (spanS r) = (r, true) := by
 obtain ⟨lo, hi⟩ := r
 obtain ⟨a, b, c, d⟩ := h
 dsimp only at *
 have n1 := number_decI lo 0 65535 a a b (by omega)
 have n2 := number_decI hi lo 65535 c hle d (by omega)
 unfold portsT spanS
 by_cases e : lo = hi
 ·subst e
  rw [if_pos rfl, cut_no (dash_no _)]
  have n3 := number_decI lo lo 65535 a (Int.le_refl _) b (by omega)
  simp [n1, n3]
 ·rw [if_neg e, List.append_assoc]
  rw [show [45] ++ dec hi.toNat = 45 :: dec hi.toNat from rfl, cut_yes (dash_no _)]
  simp [n1, n2]
theorem gw_ne {s : Str} (h : GW s) : s ≠ [44] := fun e => by
 subst e
 have := h.all 44 (by simp)
 exact absurd this (by decide)
theorem gw_item {x : TItem} {g : Bool} (_hf : FItem x) (hn : x.kind = 1 ∨ x.kind = 3 → vname x.name = true) : ∀ s ∈ itemW x g, s ≠ [44] := by
 have two : ∀ {a b : Str}, GW a → GW b → ∀ s ∈ [a, b], s ≠ [44] := fun ha hb s hs => by
  simp only [List.mem_cons, List.mem_nil_iff, or_false] at hs
  rcases hs with rfl | rfl
  ·exact gw_ne ha
  ·exact gw_ne hb
 have hsp : ∀ {r : TRng}, GW (spanS r) := fun {r} => by
  unfold spanS
  split
  ·exact dec_gw _
  ·exact gw_join (dec_gw _) (by decide) (dec_gw _)
 unfold itemW
 split
 ·rename_i h; exact two (key_gw (by decide)) (vname_gw (hn (.inr h.1)))
 split
 ·rename_i h; exact two (key_gw (by decide)) (vname_gw (hn (.inr h)))
 split
 ·rename_i h; exact two (key_gw (by decide)) (vname_gw (hn (.inl h)))
 split
 ·exact two (key_gw (by decide)) (pfxS_gw _)
 split
 ·exact two (key_gw (by decide)) hsp
 split
 ·exact two (key_gw (by decide)) hsp
 split
 ·intro s hs; rw [List.mem_singleton.1 hs]; exact gw_ne (key_gw (by decide))
 ·exact two (key_gw (by decide)) (dec_gw _)
theorem rdItem_w {x : TItem} {g : Bool} (h : vItem x (!g) = true) (hi : ItIn x) : rdItem (itemW x g) (!g) = (x, true, true) := by
 have hf := vItem_f h hi
 unfold vItem at h
 split at h
 ·rename_i k
  simp only [Bool.and_eq_true, Bool.not_not] at h
  obtain ⟨⟨rfl, hv⟩, he⟩ := h
  have e := eqI_eq he
  rw [e, k]
  unfold itemW rdItem
  simp [hv]
 split at h
 ·rename_i _ k
  simp only [Bool.and_eq_true, Bool.not_not] at h
  obtain ⟨⟨rfl, hv⟩, he⟩ := h
  have e := eqI_eq he
  have hp := pfx_pfxS x.pfx (hf.pfx k).1 (hf.pfx k).2
  rw [e, k]
  unfold itemW rdItem
  simp [hp]
 split at h
 ·rename_i _ _ k
  simp only [Bool.and_eq_true] at h
  have e := eqI_eq h.2
  rw [e, k]
  unfold itemW rdItem
  cases g <;> simp [h.1, formB, eqf]
 split at h
 ·rename_i k1 k2 k3 k
  simp only [Bool.and_eq_true] at h
  obtain ⟨⟨hs, hv⟩, he⟩ := h
  obtain rfl : g = false := by simpa using hs
  have e := eqI_eq he
  have e2 : x.name = [] ∧ x.pfx = pfx0 := by rw [e]; exact ⟨rfl, rfl⟩
  obtain ⟨kind, name, pfx, proto, ports⟩ := x
  dsimp only at *
  obtain ⟨rfl, rfl⟩ := e2
  subst k
  unfold vPorts at hv
  by_cases q : proto = 6 ∨ proto = 17
  ·have hp := hf.ports rfl q
   rw [if_pos q] at hv
   simp only [Bool.and_eq_true, decide_eq_true_eq] at hv
   have hs := portsT_span hp hv.1
   rcases q with rfl | rfl
   ·unfold itemW rdItem
    simp [hs, formB, eqf]
   ·unfold itemW rdItem
    simp [hs, formB, eqf]
  ·rw [if_neg q] at hv
   by_cases q1 : proto = 1
   ·subst q1
    rw [if_pos rfl] at hv
    have := eqR_eq hv
    subst this
    unfold itemW rdItem
    simp [formB, eqf, show formP [105, 99, 109, 112] [105, 99, 109, 112] = true by decide]
   ·rw [if_neg q1] at hv
    simp only [Bool.and_eq_true, decide_eq_true_eq] at hv
    have := eqR_eq hv.2
    subst this
    have hn := number_decI proto 0 255 hv.1.1 hv.1.1 hv.1.2 (by omega)
    have hd := digitsB_dec proto.toNat
    unfold itemW rdItem
    have q6 : ¬ proto = 6 := fun e => q (.inl e)
    have q17 : ¬ proto = 17 := fun e => q (.inr e)
    simp [hn, hd, q6, q17, q1, formB, eqf]
 ·cases h
theorem segGo_word : ∀ (ws : List Str) (rest : List Str) (done : List (List Str)) (cur : List Str), (∀ s ∈ ws, s ≠ [44]) → segGo (ws ++ rest) done cur = segGo rest done (cur ++ ws)
 | [], rest, done, cur, _ => by simp
 | w :: ws, rest, done, cur, h => by
  rw [List.cons_append, segGo, if_neg (h w (List.mem_cons_self ..)), segGo_word ws rest done (cur ++ [w]) fun s hs => h s (List.mem_cons_of_mem _ hs)]
  simp
theorem segGo_items {l : List TItem} {g : Bool} (h : ∀ x ∈ l, ∀ s ∈ itemW x g, s ≠ [44]) : ∀ (k : Nat) (rest : List Str), k < l.length → segGo (itemsN l g (k + 1) ++ rest) [] [] = segGo rest ((l.take k).map fun x => itemW x g) (itemW (l.getD k default) g)
 | 0, rest, hk => by
  have := segGo_word (itemW (l.getD 0 default) g) rest [] [] (h _ (getD_memD hk))
  simpa [itemsN] using this
 | k + 1, rest, hk => by
  have e : itemsN l g (k + 1 + 1) ++ rest = itemsN l g (k + 1) ++ ([44] :: (itemW (l.getD (k + 1) default) g ++ rest)) := by
   rw [itemsN, if_pos (by omega)]
   simp
  rw [e, segGo_items h k _ (by omega), segGo, if_pos rfl, segGo_word _ _ _ _ (h _ (getD_memD hk)), List.nil_append]
  congr 1
  rw [List.take_succ_eq_append_getElem (by omega), List.map_append, List.getD, List.getElem?_eq_getElem (by omega)]
  rfl
theorem itemsT_w {l : List TItem} {g : Bool} (hl : 1 ≤ l.length) (h : ∀ x ∈ l, ∀ s ∈ itemW x g, s ≠ [44]) : itemsT (itemsW l g) = (l.map fun x => itemW x g, true) := by
 have e : segs (itemsW l g) = l.map fun x => itemW x g := by
  unfold segs itemsW
  have := segGo_items (g := g) h (l.length - 1) [] (by omega)
  rw [List.append_nil, show l.length - 1 + 1 = l.length by omega] at this
  rw [this, segGo]
  have h2 : l = l.take (l.length - 1) ++ [l.getD (l.length - 1) default] := by
   have := List.take_succ_eq_append_getElem (l := l) (i := l.length - 1) (by omega)
   rw [show l.length - 1 + 1 = l.length by omega, List.take_length] at this
   rw [List.getD, List.getElem?_eq_getElem (by omega)]
   exact this
  conv => rhs; rw [h2, List.map_append]
  rfl
 unfold itemsT
 rw [e, if_pos]
 rw [List.all_map, List.all_eq_true]
 intro x _
 have := (itemW_len x g).2
 simp only [Function.comp]
 cases hx : itemW x g with
 | nil => rw [hx] at this; simp at this
 | cons a b => rfl
theorem not_not_eq_true_all {α : Type} {p : α → Bool} {l : List α} : (¬ ¬ l.all p = true) = ∀ x ∈ l, p x = true := by
 rw [Decidable.not_not, List.all_eq_true]
theorem pDef_w {L : List TDef} {g : Bool} (h : VDef L (!g)) (hi : ∀ d ∈ L, ∀ x ∈ d.items, ItIn x) {k : Nat} (hk : k < L.length) : pDef (L.take k) (defW g (L.getD k default)) (!g) = (0, L.take (k + 1)) := by
 have hm := getD_memD hk
 have h1 := h.name _ hm
 have hit : itemsT ((defW g (L.getD k default)).drop 3) = ((L.getD k default).items.map fun x => itemW x g, true) := by
  show itemsT (itemsW (L.getD k default).items g) = _
  exact itemsT_w (h.i1 _ hm) fun x hx => gw_item (vItem_f (h.items _ hm x hx) (hi _ hm x hx)) (vItem_name (h.items _ hm x hx))
 have hr : ∀ x ∈ (L.getD k default).items, rdItem (itemW x g) (!g) = (x, true, true) := fun x hx => rdItem_w (h.items _ hm x hx) (hi _ hm x hx)
 have hl : 3 ≤ (defW g (L.getD k default)).length := by unfold defW; simp
 have hf : firstAt (fun d : TDef => d.name == (L.getD k default).name) (L.take k) = -1 := firstAt_done (h.first k hk)
 have h2 := h.i2 _ hm
 have h3 := h.len
 have e1 : (defW g (L.getD k default)).getD 1 [] = (L.getD k default).name := rfl
 have e2 : (defW g (L.getD k default)).getD 2 [] = [61] := rfl
 unfold pDef
 rw [e1, e2, hit, h1, hf]
 rw [if_neg (by rintro ((q | q) | q); omega; exact q rfl; exact q rfl), if_neg (by simp), if_neg (by
  rw [not_not_eq_true_all]; exact fun y hy => by
   obtain ⟨x, hx, rfl⟩ := List.mem_map.1 hy
   rw [hr x hx]), if_neg (by
  rw [not_not_eq_true_all]; exact fun y hy => by
   obtain ⟨x, hx, rfl⟩ := List.mem_map.1 hy
   rw [hr x hx]), if_neg (by dsimp only; rw [List.length_map]; omega), if_neg (by decide), if_neg (by rw [List.length_take]; omega)]
 have e3 : ((L.getD k default).items.map fun x => itemW x g).map (fun x => (rdItem x (!g)).1) = (L.getD k default).items := by
  rw [List.map_map]
  conv => rhs; rw [← List.map_id (L.getD k default).items]
  refine List.map_congr_left fun x hx => ?_
  show (rdItem (itemW x g) (!g)).1 = x
  rw [hr x hx]
 dsimp only
 rw [e3, List.take_succ_eq_append_getElem hk, List.getD, List.getElem?_eq_getElem hk]
 rfl
theorem vname_any : vname [97, 110, 121] = false := by decide
theorem rdRef_name {s : Str} (h : okName s = true) : rdRef (nameS s) = (s, true) := by
 unfold rdRef nameS
 by_cases e : s = []
 ·subst e; rfl
 ·have hv := okName_v h e
  rw [if_neg e, if_neg (fun q => by rw [q, vname_any] at hv; cases hv), hv]
theorem rdStm_w {s : TStm} (h : vStm s = true) : rdStm (stmW s) = (0, s) := by
 obtain ⟨n1, n2, n3, n4, n5, n6, n7⟩ := stm_names h
 have hp := stm_prio h
 have hr : (s.permit = true ∨ s.cls = []) ∧ (s.excepted = true ∨ s.exSrc = [] ∧ s.exDst = []) := by
  unfold vStm stmRest at h
  simp only [Bool.and_eq_true, Bool.or_eq_true, beq_iff_eq] at h
  exact h.2.1.1
 have r1 := rdRef_name n1
 have r2 := rdRef_name n2
 have r3 := rdRef_name n3
 have r6 := rdRef_name n6
 have r7 := rdRef_name n7
 have hn := number_decI s.prio 0 1000 hp.1 hp.1 hp.2 (by omega)
 have hd := digitsB_dec s.prio.toNat
 have v4 := fun q => okName_v n4 q
 have v5 := fun q => okName_v n5 q
 obtain ⟨pm, src, dst, service, ex, exs, exd, cls, during, prio⟩ := s
 dsimp only at *
 obtain ⟨hr1, hr2⟩ := hr
 by_cases c : cls = [] <;> by_cases d : during = [] <;> by_cases p : prio = 0 <;> cases ex <;> cases pm
 all_goals
  simp only [Bool.false_eq_true, false_or, true_or] at hr1 hr2
 all_goals
  first
  | (exact absurd hr1 c)
  | skip
 all_goals
  simp [stmW, stmW3, stmW2, stmW1, stmW0, rdStm, sHead, sExc, sVia, sDur, sPri, r1, r2, r3, r6, r7, hn, hd, c, d, p, hr2, v4, v5]
theorem addr_i {a : Int} (h : 0 ≤ a ∧ a < 4294967296) : addr (addrS a.toNat) = (a, true) := by
 rw [addr_addrS a.toNat (by omega), Int.toNat_of_nonneg h.1]
theorem pPub_w {L : List TPub} {k : Nat} (hk : k < L.length) (h16 : L.length ≤ 16) (h : vPub (L.getD k default) = true) (hi : (0 ≤ (L.getD k default).addr ∧ (L.getD k default).addr < 4294967296) ∧ 0 ≤ (L.getD k default).real ∧ (L.getD k default).real < 4294967296) : pPub (L.take k) (pubW (L.getD k default)) = (0, L.take (k + 1)) := by
 obtain ⟨h1, h2, h3, h4⟩ := pub_f h
 have ht : L.take (k + 1) = L.take k ++ [L.getD k default] := by rw [List.take_succ_eq_append_getElem hk, List.getD, List.getElem?_eq_getElem hk]; rfl
 rw [ht]
 generalize L.getD k default = p at *
 have f : formB (pubW p) pubF = true := by
  unfold pubW
  split <;> simp [formB, eqf, pubF, formP]
 have e1 : (pubW p).getD 1 [] = addrS p.addr.toNat := rfl
 have e2 : (pubW p).getD 2 [] = if p.proto = 17 then [117, 100, 112] else [116, 99, 112] := rfl
 have e3 : (pubW p).getD 3 [] = dec p.port.toNat := rfl
 have e5 : (pubW p).getD 5 [] = p.edge := rfl
 have e7 : (pubW p).getD 7 [] = addrS p.real.toNat := rfl
 have e8 : (pubW p).getD 8 [] = dec p.realPort.toNat := rfl
 have hpr : protoOf (if p.proto = 17 then [117, 100, 112] else [116, 99, 112]) = p.proto := by
  rcases h1 with q | q <;> rw [q] <;> decide
 have hn1 := number_decI p.port 0 65535 h2.1 h2.1 h2.2 (by omega)
 have hn2 := number_decI p.realPort 0 65535 h3.1 h3.1 h3.2 (by omega)
 unfold pPub
 rw [f, e1, e2, e3, e5, e7, e8, hpr, addr_i hi.1, addr_i hi.2, hn1, hn2, h4, digitsB_dec, digitsB_dec, List.length_take]
 rw [if_neg (by simp), if_neg (by rintro ((q | q) | q); omega; exact q rfl; exact q rfl), if_neg (by simp), if_neg (by omega)]
theorem pHid_w {L : List THid} {k : Nat} (hk : k < L.length) (h8 : L.length ≤ 8) (h : vHid (L.getD k default) = true) (hi : 0 ≤ (L.getD k default).addr ∧ (L.getD k default).addr < 4294967296) : pHid (L.take k) (hidW (L.getD k default)) = (0, L.take (k + 1)) := by
 obtain ⟨h1, h2, h3, h4, h5⟩ := hid_f h
 have hpi := hid_pin h
 have ht : L.take (k + 1) = L.take k ++ [L.getD k default] := by rw [List.take_succ_eq_append_getElem hk, List.getD, List.getElem?_eq_getElem hk]; rfl
 rw [ht]
 generalize L.getD k default = p at *
 have f : formB (hidW p) hidF = true := by
  unfold hidW
  simp [formB, eqf, hidF, formP]
 have e1 : (hidW p).getD 1 [] = p.group := rfl
 have e3 : (hidW p).getD 3 [] = p.edge := rfl
 have e5 : (hidW p).getD 5 [] = addrS p.addr.toNat := rfl
 have e7 : (hidW p).getD 7 [] = spanS p.ports := rfl
 unfold pHid
 rw [f, e1, e3, e5, e7, addr_i hi, portsT_span hpi h4, h1, h2, List.length_take]
 rw [if_neg (by simp), if_neg (by simp), if_neg (by dsimp only; omega), if_neg (by omega)]
theorem pStm_w {L : List TStm} {k : Nat} (hk : k < L.length) (h64 : L.length ≤ 64) (h : vStm (L.getD k default) = true) : pStm (L.take k) (stmW (L.getD k default)) = (0, L.take (k + 1)) := by
 have ht : L.take (k + 1) = L.take k ++ [L.getD k default] := by rw [List.take_succ_eq_append_getElem hk, List.getD, List.getElem?_eq_getElem hk]; rfl
 unfold pStm
 rw [rdStm_w h, if_neg (by simp), if_neg (by rw [List.length_take]; omega), ht]
theorem clock_time : ∀ n : Fin 1441, clock (timeS (n.val : Int)) = (n.val : Int) := by decide +kernel
theorem clock_timeS {n : Int} (h : 0 ≤ n ∧ n ≤ 1440) : clock (timeS n) = n := by
 have := clock_time ⟨n.toNat, by omega⟩
 rwa [Int.toNat_of_nonneg h.1] at this
theorem time_dash {n : Int} (h : n ≤ 1440) : (45 : UInt8) ∉ timeS n := by
 have hd : ∀ d : Fin 10, UInt8.ofNat (48 + d.val) ≠ 45 := by decide
 intro hm
 simp only [timeS, twoS, List.mem_append, List.mem_cons, List.mem_nil_iff, or_false] at hm
 rcases hm with ((hm | hm) | hm) | hm | hm
 ·exact hd ⟨(n / 60).toNat / 10, by omega⟩ hm.symm
 ·exact hd ⟨(n / 60).toNat % 10, by omega⟩ hm.symm
 ·revert hm; decide
 ·exact hd ⟨(n % 60).toNat / 10, by omega⟩ hm.symm
 ·exact hd ⟨(n % 60).toNat % 10, by omega⟩ hm.symm
theorem day_ix : ∀ d : Fin 7, dayIx (dayNames.getD d.val []) = (d.val : Int) ∧ (45 : UInt8) ∉ dayNames.getD d.val [] := by decide
def Pc (p : Nat × TRng) : Prop := p.1 < 7 ∧ (p.1 : Int) * 1440 ≤ p.2.lo ∧ p.2.lo ≤ p.2.hi ∧ p.2.hi < p.1 * 1440 + 1440
def wI (p : Nat × TRng) : List Str := wItem p.1 p.2
def wJ : List (Nat × TRng) → List Str
 | [] => []
 | [p] => wI p
 | p :: q :: ps => wI p ++ [44] :: wJ (q :: ps)
theorem wI_ok {p : Nat × TRng} (h : Pc p) : ∃ d t, wI p = [d, t] ∧ spanOk d = true ∧ timeOk t = true ∧ itemRs d t = [p.2] := by
 obtain ⟨h1, h2, h3, h4⟩ := h
 obtain ⟨d1, d2⟩ := day_ix ⟨p.1, h1⟩
 have ea : spanA (dayNames.getD p.1 []) = p.1 := by unfold spanA; rw [cut_no d2]; exact d1
 have eb : spanB (dayNames.getD p.1 []) = p.1 := by unfold spanB; rw [cut_no d2]; exact d1
 have ec := cut_yes (b := timeS (p.2.hi - p.1 * 1440 + 1)) (time_dash (n := p.2.lo - p.1 * 1440) (by omega))
 have et : timeS (p.2.lo - p.1 * 1440) ++ [45] ++ timeS (p.2.hi - p.1 * 1440 + 1) = timeS (p.2.lo - p.1 * 1440) ++ 45 :: timeS (p.2.hi - p.1 * 1440 + 1) := by simp
 have ta : timeA (timeS (p.2.lo - p.1 * 1440) ++ [45] ++ timeS (p.2.hi - p.1 * 1440 + 1)) = p.2.lo - p.1 * 1440 := by
  unfold timeA; rw [et, ec]; exact clock_timeS (by omega)
 have tb : timeB (timeS (p.2.lo - p.1 * 1440) ++ [45] ++ timeS (p.2.hi - p.1 * 1440 + 1)) = p.2.hi - p.1 * 1440 + 1 := by
  unfold timeB; rw [et, ec]; exact clock_timeS (by omega)
 refine ⟨_, _, rfl, ?_, ?_, ?_⟩
 ·unfold spanOk; rw [ea, eb]; simp
 ·unfold timeOk; rw [ta, tb]; simp; omega
 ·unfold itemRs
  rw [ea, eb, ta, tb, show ((p.1 : Int) - p.1 + 1).toNat = 1 by omega]
  obtain ⟨d, lo, hi⟩ := p
  simp only [List.range_one, List.map_cons, List.map_nil, dayR, List.cons.injEq, and_true, TRng.mk.injEq]
  constructor <;> omega
theorem wRun_J : ∀ (ps : List (Nat × TRng)) (out : List TRng) (n : Nat), ps ≠ [] → (∀ p ∈ ps, Pc p) → wRun (wJ ps) out n = some (out ++ ps.map (·.2), n + ps.length)
 | [], _, _, h, _ => (h rfl).elim
 | [p], out, n, _, hp => by
  obtain ⟨d, t, e, h1, h2, h3⟩ := wI_ok (hp p (List.mem_cons_self ..))
  rw [wJ, e, wRun, h1, h2, h3]
  simp
 | p :: q :: ps, out, n, _, hp => by
  obtain ⟨d, t, e, h1, h2, h3⟩ := wI_ok (hp p (List.mem_cons_self ..))
  have ih := wRun_J (q :: ps) (out ++ [p.2]) (n + 1) (by simp) fun x hx => hp x (List.mem_cons_of_mem _ hx)
  rw [wJ, e]
  show wRun (d :: t :: [44] :: wJ (q :: ps)) out n = _
  rw [wRun, h1, h2, h3]
  simp only [Bool.true_eq_false, or_self, if_false, if_true]
  rw [ih]
  simp
  omega
theorem wI_ne (p : Nat × TRng) : 0 < (wI p).length := by simp [wI, wItem]
theorem fold_J : ∀ (ps : List (Nat × TRng)) (o : List Str), 0 < o.length → ps ≠ [] → ps.foldl (fun o p => wPut p.1 o p.2) o = o ++ [44] :: wJ ps
 | [], _, _, h => (h rfl).elim
 | [p], o, ho, _ => by
  show wPut p.1 o p.2 = _
  unfold wPut
  rw [if_pos ho]
  simp [wJ, wI]
 | p :: q :: ps, o, ho, _ => by
  rw [List.foldl_cons]
  have e : wPut p.1 o p.2 = (o ++ [[44]]) ++ wI p := by unfold wPut; rw [if_pos ho]; rfl
  rw [e, fold_J (q :: ps) _ (by simp; omega) (by simp), wJ]
  simp
theorem fold_J0 (ps : List (Nat × TRng)) : ps.foldl (fun o p => wPut p.1 o p.2) [] = wJ ps := by
 match ps with
 | [] => rfl
 | [p] => simp [wPut, wJ, wI]
 | p :: q :: ps =>
  rw [List.foldl_cons]
  have e : wPut p.1 [] p.2 = wI p := by simp [wPut, wI]
  rw [e, fold_J (q :: ps) _ (wI_ne p) (by simp), wJ]
def pcs (l : List TRng) (n : Nat) : List (Nat × TRng) := (List.range n).flatMap fun d => (wDay l d).map fun r => (d, r)
theorem wDays_fold (l : List TRng) : ∀ n, wDays l n = (pcs l n).foldl (fun o p => wPut p.1 o p.2) []
 | 0 => rfl
 | n + 1 => by
  have e : pcs l (n + 1) = pcs l n ++ (wDay l n).map fun r => (n, r) := by unfold pcs; rw [List.range_succ, List.flatMap_append]; simp
  rw [wDays_succ, wDays_fold l n, e, List.foldl_append, List.foldl_map]
theorem pcs_pc (l : List TRng) {p : Nat × TRng} (h : p ∈ pcs l 7) : Pc p := by
 unfold pcs at h
 obtain ⟨d, hd, hp⟩ := List.mem_flatMap.1 h
 obtain ⟨r, hr, rfl⟩ := List.mem_map.1 hp
 exact ⟨List.mem_range.1 hd, wDay_in l d r hr⟩
theorem pcs_mem (l : List TRng) (hl : ∀ r ∈ l, 0 ≤ r.lo ∧ r.hi ≤ 10079) (v : Int) : mem l v ↔ mem ((pcs l 7).map (·.2)) v := by
 constructor
 ·intro h
  obtain ⟨r, hr, h1, h2⟩ := h
  have hb := hl r hr
  have hm : mem (wDay l (v / 1440).toNat) v := by
   unfold wDay
   rw [isect_mem]
   refine ⟨⟨r, hr, h1, h2⟩, _, List.mem_singleton.2 rfl, ?_, ?_⟩
   ·show (((v / 1440).toNat : Nat) : Int) * 1440 ≤ v; omega
   ·show v ≤ (((v / 1440).toNat : Nat) : Int) * 1440 + 1440 - 1; omega
  obtain ⟨r', hr', h3, h4⟩ := hm
  refine ⟨r', List.mem_map.2 ⟨((v / 1440).toNat, r'), List.mem_flatMap.2 ⟨_, List.mem_range.2 (by omega), List.mem_map.2 ⟨r', hr', rfl⟩⟩, rfl⟩, h3, h4⟩
 ·rintro ⟨r, hr, h1, h2⟩
  obtain ⟨⟨d, r'⟩, hp, rfl⟩ := List.mem_map.1 hr
  obtain ⟨d', _, hp⟩ := List.mem_flatMap.1 hp
  obtain ⟨r2, hr2, e⟩ := List.mem_map.1 hp
  cases e
  have : mem (wDay l d) v := ⟨r', hr2, h1, h2⟩
  unfold wDay at this
  exact ((isect_mem _ _ v).1 this).1
theorem wJ_len : ∀ ps : List (Nat × TRng), ps ≠ [] → (wJ ps).length + 1 = 3 * ps.length
 | [], h => (h rfl).elim
 | [p], _ => by simp [wJ, wI, wItem]
 | p :: q :: ps, _ => by
  have := wJ_len (q :: ps) (by simp)
  simp only [wJ, wI, wItem, List.length_append, List.length_cons, List.length_nil] at this ⊢
  omega
theorem wParse_wFormat {l : List TRng} (h : wOkB l = true) (hi : ∀ r ∈ l, RIn r) : wParse (wFormat l) = (l, 0) := by
 have hlen := wOk_len h
 unfold wOkB at h
 simp only [Bool.and_eq_true, decide_eq_true_eq] at h
 unfold wFormat at hlen h ⊢
 by_cases hv : ivalid l 10079 = true
 case neg => rw [if_neg hv] at hlen; simp at hlen
 rw [if_pos hv] at hlen h ⊢
 by_cases he : l = []
 ·rw [if_pos he, he]; rfl
 rw [if_neg he] at hlen h ⊢
 obtain ⟨hc, hh⟩ := can_ivalid hv
 have e : wDays l 7 = wJ (pcs l 7) := (wDays_fold l 7).trans (fold_J0 _)
 rw [e] at hlen h ⊢
 have hp : pcs l 7 ≠ [] := fun q => by rw [q] at hlen; simp [wJ] at hlen
 have hw := wJ_len _ hp
 have hps : (pcs l 7).length ≤ 16 := by omega
 have hp1 : 1 ≤ (pcs l 7).length := by
  cases hq : pcs l 7 with
  | nil => exact (hp hq).elim
  | cons a b => simp
 unfold wParse
 rw [if_neg (fun q => by rw [q] at hw; simp at hw; omega), wRun_J _ [] 0 hp fun p hp => pcs_pc l hp]
 unfold wEnd
 rw [List.nil_append]
 show (if 0 + (pcs l 7).length > 16 then (([] : List TRng), (3 : Int)) else (canon ((pcs l 7).map (·.2)), 0)) = _
 rw [if_neg (by omega)]
 have hu := canon_uniq hc (pcs_mem l fun r hr => ⟨(hi r hr).1.1, hh r hr⟩)
 rw [← hu]
theorem pWin_w {L : List TWin} {k : Nat} (hk : k < L.length) (h32 : L.length ≤ 32) (hn : vname (L.getD k default).name = true) (hf : firstAt (fun x : TWin => x.name == (L.getD k default).name) L = k) (ho : wOkB (L.getD k default).active = true) (hi : ∀ r ∈ (L.getD k default).active, RIn r) : pWin (L.take k) (winW (L.getD k default)) = (0, L.take (k + 1)) := by
 have ht : L.take (k + 1) = L.take k ++ [L.getD k default] := by rw [List.take_succ_eq_append_getElem hk, List.getD, List.getElem?_eq_getElem hk]; rfl
 have hf' : firstAt (fun x : TWin => x.name == (L.getD k default).name) (L.take k) = -1 := firstAt_done hf
 rw [ht]
 generalize L.getD k default = w at *
 have e1 : (winW w).getD 1 [] = w.name := rfl
 have e2 : (winW w).getD 2 [] = [61] := rfl
 have e3 : (winW w).drop 3 = wFormat w.active := rfl
 have hl : 3 ≤ (winW w).length := by unfold winW; simp
 unfold pWin
 rw [e1, e2, e3, wParse_wFormat ho hi, hn, hf', ho, List.length_take]
 rw [if_neg (by rintro ((q | q) | q); omega; exact q rfl; exact q rfl), if_neg (by simp), if_neg (by simp), if_neg (by decide), if_neg (by omega)]
def OneDay (r : TRng) : Prop := r.lo ≤ r.hi ∧ 0 ≤ r.lo ∧ r.lo / 1440 ≤ 6 ∧ r.hi < (r.lo / 1440) * 1440 + 1440
def below (d : Nat) (r : TRng) : Bool := decide (r.lo < (d : Int) * 1440)
def inDay (d : Nat) (r : TRng) : Bool := decide ((d : Int) * 1440 ≤ r.lo ∧ r.lo < (d : Int) * 1440 + 1440)
theorem below_step (d : Nat) : ∀ l : List TRng, (l.filter (below d)).length + (l.filter (inDay d)).length ≤ (l.filter (below (d + 1))).length
 | [] => Nat.le_refl 0
 | r :: l => by
  have h := below_step d l
  have e1 : ((r :: l).filter (below d)).length = (if r.lo < (d : Int) * 1440 then 1 else 0) + (l.filter (below d)).length := by
   by_cases g : r.lo < (d : Int) * 1440
   ·rw [List.filter_cons_of_pos (show below d r = true from decide_eq_true g), if_pos g, List.length_cons, Nat.add_comm]
   ·rw [List.filter_cons_of_neg (by simp [below, g]), if_neg g, Nat.zero_add]
  have e2 : ((r :: l).filter (below (d + 1))).length = (if r.lo < ((d + 1 : Nat) : Int) * 1440 then 1 else 0) + (l.filter (below (d + 1))).length := by
   by_cases g : r.lo < ((d + 1 : Nat) : Int) * 1440
   ·rw [List.filter_cons_of_pos (show below (d + 1) r = true from decide_eq_true g), if_pos g, List.length_cons, Nat.add_comm]
   ·rw [List.filter_cons_of_neg (by simp only [below, decide_eq_true_eq]; exact g), if_neg g, Nat.zero_add]
  have e3 : ((r :: l).filter (inDay d)).length = (if (d : Int) * 1440 ≤ r.lo ∧ r.lo < (d : Int) * 1440 + 1440 then 1 else 0) + (l.filter (inDay d)).length := by
   by_cases g : (d : Int) * 1440 ≤ r.lo ∧ r.lo < (d : Int) * 1440 + 1440
   ·rw [List.filter_cons_of_pos (show inDay d r = true from decide_eq_true g), if_pos g, List.length_cons, Nat.add_comm]
   ·rw [List.filter_cons_of_neg (by simp only [inDay, decide_eq_true_eq]; exact g), if_neg g, Nat.zero_add]
  rw [e1, e2, e3]
  split <;> split <;> split <;> omega
theorem wDay_canon {R : List TRng} (h : ∀ r ∈ R, OneDay r) (d : Nat) : (wDay (canon R) d).length ≤ (R.filter (inDay d)).length := by
 have e : wDay (canon R) d = canon (R.filter (inDay d)) := by
  refine canon_uniq (canon_ok _).1 fun v => ?_
  unfold wDay
  rw [isect_mem, (canon_ok R).2]
  constructor
  ·rintro ⟨⟨r, hr, h1, h2⟩, s, hs, h3, h4⟩
   rw [List.mem_singleton] at hs
   subst hs
   unfold dayAll at h3 h4
   dsimp only at h3 h4
   have := h r hr
   unfold OneDay at this
   refine ⟨r, List.mem_filter.2 ⟨hr, decide_eq_true ?_⟩, h1, h2⟩
   omega
  ·rintro ⟨r, hr, h1, h2⟩
   obtain ⟨hr, hd⟩ := List.mem_filter.1 hr
   have hd := of_decide_eq_true hd
   have := h r hr
   unfold OneDay at this
   refine ⟨⟨r, hr, h1, h2⟩, _, List.mem_singleton_self _, ?_, ?_⟩ <;> unfold dayAll <;> dsimp only <;> omega
 rw [e]
 exact canon_len _
theorem wDays_canon {R : List TRng} (h : ∀ r ∈ R, OneDay r) : ∀ n : Nat, (wDays (canon R) n).length ≤ 3 * (R.filter (below n)).length
 | 0 => Nat.zero_le _
 | n + 1 => by
  have h1 := wDays_canon h n
  have h2 := wPuts_len n (wDay (canon R) n) (wDays (canon R) n)
  have h3 := wDay_canon h n
  have h4 := below_step n R
  rw [wDays_succ]
  omega
theorem canon_top {R : List TRng} (h : ∀ r ∈ R, OneDay r) : ∀ r ∈ canon R, RIn r ∧ r.hi ≤ 10079 := fun r hr => by
 have hc := (canon_ok R).1
 have h1 := hc.le r hr
 obtain ⟨a, ha, g1, g2⟩ := ((canon_ok R).2 r.lo).1 ⟨r, hr, Int.le_refl _, h1⟩
 obtain ⟨b, hb, g3, g4⟩ := ((canon_ok R).2 r.hi).1 ⟨r, hr, h1, Int.le_refl _⟩
 have ha := h a ha
 have hb := h b hb
 unfold OneDay at ha hb
 unfold RIn
 omega
theorem wOk_canon {R : List TRng} (h : ∀ r ∈ R, OneDay r) (h0 : R ≠ []) (hl : R.length ≤ 15) : wOkB (canon R) = true := by
 have ht := canon_top h
 have hc := (canon_ok R).1
 have hv : ivalid (canon R) 10079 = true := ivalid_can hc fun r hr => (ht r hr).2
 have hn : canon R ≠ [] := fun e => by
  obtain ⟨r, R', rfl⟩ := List.exists_cons_of_ne_nil h0
  have hr := h r (List.mem_cons_self ..)
  have := ((canon_ok (r :: R')).2 r.lo).2 ⟨r, List.mem_cons_self .., Int.le_refl _, hr.1⟩
  rw [e] at this
  exact mem_nil _ this
 have h1 := wDays_pos hc hn (fun r hr => (ht r hr).1) fun r hr => (ht r hr).2
 have h2 := wDays_canon h 7
 have h3 := List.length_filter_le (below 7) R
 unfold wOkB wFormat
 rw [if_pos hv, if_neg hn, Bool.and_eq_true]
 exact ⟨decide_eq_true (by omega), decide_eq_true (by omega)⟩
theorem itemRs_one {d t : Str} (h1 : spanOk d = true) (h2 : timeOk t = true) : ∀ r ∈ itemRs d t, OneDay r := fun r hr => by
 have hs := span_facts d h1
 have ht := time_facts t h2
 simp only [itemRs, List.mem_map, List.mem_range] at hr
 obtain ⟨k, hk, rfl⟩ := hr
 unfold OneDay dayR
 dsimp only
 have e : ((spanA d + (k : Int)) * 1440 + timeA t) / 1440 = spanA d + k := by omega
 rw [e]
 omega
theorem wd6_ok : ∀ i, i < 6 → spanOk (wd6.getD i []) = true ∧ (spanB (wd6.getD i []) - spanA (wd6.getD i []) + 1).toNat ≤ 5 ∧ 1 ≤ (spanB (wd6.getD i []) - spanA (wd6.getD i []) + 1).toNat := by decide
theorem wh5_ok : ∀ i, i < 5 → timeOk (wh5.getD i []) = true := by decide
def qItem (p : Nat × Nat) : List TRng := itemRs (wd6.getD p.1 []) (wh5.getD p.2 [])
theorem qItem_ok {p : Nat × Nat} (h : p.1 < 6 ∧ p.2 < 5) : (∀ r ∈ qItem p, OneDay r) ∧ (qItem p).length ≤ 5 ∧ 1 ≤ (qItem p).length := by
 have h1 := wd6_ok _ h.1
 refine ⟨itemRs_one h1.1 (wh5_ok _ h.2), ?_⟩
 unfold qItem itemRs
 rw [List.length_map, List.length_range]
 exact h1.2
theorem wRun_q (d t : Str) (rest : List Str) (out : List TRng) (n : Nat) (h1 : spanOk d = true) (h2 : timeOk t = true) : wRun (d :: t :: [44] :: rest) out n = wRun rest (out ++ itemRs d t) (n + 1) := by
 rw [wRun, if_neg (by rw [h1, h2]; decide)]
 rfl
theorem wRun_e (d t : Str) (out : List TRng) (n : Nat) (h1 : spanOk d = true) (h2 : timeOk t = true) : wRun [d, t] out n = some (out ++ itemRs d t, n + 1) := by
 rw [wRun, if_neg (by rw [h1, h2]; decide)]
theorem wParse_q {q : List (Nat × Nat)} (h : QW q) : ∃ R, (∀ r ∈ R, OneDay r) ∧ R ≠ [] ∧ R.length ≤ 15 ∧ wParse (wWords q) = (canon R, 0) := by
 obtain ⟨h0, h3, hp⟩ := h
 match q, h0, h3, hp with
 | [a], _, _, hp =>
  have ha := hp a (by simp)
  have ia := qItem_ok ha
  have sa := (wd6_ok _ ha.1).1
  have ta := wh5_ok _ ha.2
  refine ⟨qItem a, ia.1, fun e => by rw [e] at ia; simp at ia, by omega, ?_⟩
  show wParse [wd6.getD a.1 [], wh5.getD a.2 []] = _
  unfold wParse
  rw [if_neg (by simp), wRun_e _ _ _ _ sa ta]
  simp [wEnd, qItem]
 | [a, b], _, _, hp =>
  have ha := hp a (by simp)
  have hb := hp b (by simp)
  have ia := qItem_ok ha
  have ib := qItem_ok hb
  have sa := (wd6_ok _ ha.1).1
  have ta := wh5_ok _ ha.2
  have sb := (wd6_ok _ hb.1).1
  have tb := wh5_ok _ hb.2
  refine ⟨qItem b ++ qItem a, fun r hr => (List.mem_append.1 hr).elim (ib.1 r) (ia.1 r), fun e => ?_, by rw [List.length_append]; omega, ?_⟩
  ·have := congrArg List.length e; rw [List.length_append] at this; simp only [List.length_nil] at this; omega
  show wParse [wd6.getD b.1 [], wh5.getD b.2 [], [44], wd6.getD a.1 [], wh5.getD a.2 []] = _
  unfold wParse
  rw [if_neg (by simp), wRun_q _ _ _ _ _ sb tb, wRun_e _ _ _ _ sa ta]
  simp [wEnd, qItem]
 | [a, b, c], _, _, hp =>
  have ha := hp a (by simp)
  have hb := hp b (by simp)
  have hc := hp c (by simp)
  have ia := qItem_ok ha
  have ib := qItem_ok hb
  have ic := qItem_ok hc
  have sa := (wd6_ok _ ha.1).1
  have ta := wh5_ok _ ha.2
  have sb := (wd6_ok _ hb.1).1
  have tb := wh5_ok _ hb.2
  have sc := (wd6_ok _ hc.1).1
  have tc := wh5_ok _ hc.2
  refine ⟨(qItem c ++ qItem b) ++ qItem a, fun r hr => (List.mem_append.1 hr).elim (fun g => (List.mem_append.1 g).elim (ic.1 r) (ib.1 r)) (ia.1 r), fun e => ?_, by simp only [List.length_append]; omega, ?_⟩
  ·have := congrArg List.length e; simp only [List.length_append, List.length_nil] at this; omega
  show wParse [wd6.getD c.1 [], wh5.getD c.2 [], [44], wd6.getD b.1 [], wh5.getD b.2 [], [44], wd6.getD a.1 [], wh5.getD a.2 []] = _
  unfold wParse
  rw [if_neg (by simp), wRun_q _ _ _ _ _ sc tc, wRun_q _ _ _ _ _ sb tb, wRun_e _ _ _ _ sa ta]
  simp [wEnd, qItem]
theorem wOk_q {q : List (Nat × Nat)} (h : QW q) : wOkB (wParse (wWords q)).1 = true := by
 obtain ⟨R, h1, h2, h3, e⟩ := wParse_q h
 rw [e]
 exact wOk_canon h1 h2 h3
def mbyte (c : UInt8) : Bool := lbyte c || (c == 44 || c == 61)
theorem mbyte_ok {c : UInt8} (h : mbyte c = true) : noHash c = true ∧ pbyte c = true ∧ c ≠ 10 := by
 unfold mbyte at h
 rcases Bool.or_eq_true_iff.1 h with h | h
 ·exact lbyte_ok h
 ·rcases Bool.or_eq_true_iff.1 h with h | h
  ·obtain rfl : c = 44 := by simpa using h
   exact ⟨by decide, by decide, by decide⟩
  ·obtain rfl : c = 61 := by simpa using h
   exact ⟨by decide, by decide, by decide⟩
theorem word_mbyte {s : Str} (h : GW s ∨ Sp s) : ∀ c ∈ s, mbyte c = true := by
 intro c hc
 rcases h with h | h | h
 ·unfold mbyte lbyte; rw [h.all c hc]; rfl
 ·rw [h, List.mem_singleton] at hc; subst hc; decide
 ·rw [h, List.mem_singleton] at hc; subst hc; decide
theorem joinW_mbyte : ∀ (w : List Str) (k : Nat), (∀ s ∈ w, GW s ∨ Sp s) → ∀ c ∈ joinW k w, mbyte c = true
 | [], k, _, c, hc => by cases k <;> simp [joinW] at hc
 | s :: w, k, h, c, hc => by
  have h1 := word_mbyte (h s (List.mem_cons_self ..))
  have h2 := fun j => joinW_mbyte w j fun x hx => h x (List.mem_cons_of_mem _ hx)
  cases k with
  | zero =>
   simp only [joinW, List.mem_append] at hc
   rcases hc with hc | hc
   ·exact h1 c hc
   ·exact h2 1 c hc
  | succ k =>
   simp only [joinW, List.mem_append, List.mem_singleton] at hc
   rcases hc with (hc | hc) | hc
   ·subst hc; decide
   ·exact h1 c hc
   ·exact h2 (k + 2) c hc
theorem rwords_word2 {s : Str} (h : GW s ∨ Sp s) (r : Str) (hr : ∀ c r', r = c :: r' → isWord c = false) : rwords (s ++ r) = s :: rwords r := by
 rcases h with h | h | h
 ·exact rwords_word h r hr
 ·rw [h]; show rwords (44 :: r) = _; rw [rwords_cons]; rfl
 ·rw [h]; show rwords (61 :: r) = _; rw [rwords_cons]; rfl
theorem joinW_head (w : List Str) (k : Nat) : ∀ c r', joinW (k + 1) w = c :: r' → isWord c = false := by
 intro c r' hc
 cases w with
 | nil => simp [joinW] at hc
 | cons y w => simp [joinW] at hc; rw [← hc.1]; rfl
theorem rwords_join2 : ∀ (w : List Str) (k : Nat), (∀ s ∈ w, GW s ∨ Sp s) → rwords (joinW (k + 1) w) = w
 | [], k, _ => rfl
 | s :: w, k, h => by
  have e : joinW (k + 1) (s :: w) = 32 :: (s ++ joinW (k + 2) w) := by simp [joinW]
  rw [e, rwords_cons, show isBlank 32 = true from rfl]
  show rwords (s ++ joinW (k + 2) w) = _
  rw [rwords_word2 (h s (List.mem_cons_self ..)) _ (joinW_head w (k + 1)), rwords_join2 w (k + 1) fun x hx => h x (List.mem_cons_of_mem _ hx)]
theorem words_join2 (w : List Str) (h : ∀ s ∈ w, GW s ∨ Sp s) : words (joinW 0 w) = w := by
 rw [words_rw]
 have e : (joinW 0 w).takeWhile noHash = joinW 0 w := by
  have := (takeWhile_all (p := noHash) (l := joinW 0 w) (fun c hc => (mbyte_ok (joinW_mbyte w 0 h c hc)).1) [] (by intro c r' e; cases e)).1
  simpa using this
 rw [e]
 cases w with
 | nil => rfl
 | cons s w => rw [joinW, rwords_word2 (h s (List.mem_cons_self ..)) _ (joinW_head w 0), rwords_join2 w 0 fun x hx => h x (List.mem_cons_of_mem _ hx)]
structure MGood (l : List TLine) : Prop where
 some : ∀ x ∈ l, 0 < x.words.length
 few : ∀ x ∈ l, x.words.length ≤ 64
 good : ∀ x ∈ l, ∀ s ∈ x.words, GW s ∨ Sp s
theorem MGood.tail {x : TLine} {l : List TLine} (h : MGood (x :: l)) : MGood l := ⟨fun y hy => h.some y (List.mem_cons_of_mem _ hy), fun y hy => h.few y (List.mem_cons_of_mem _ hy), fun y hy => h.good y (List.mem_cons_of_mem _ hy)⟩
theorem parts_text2 : ∀ (l : List TLine), MGood l → parts 10 (textS l) = (l.map fun x => joinW 0 x.words) ++ [[]]
 | [], _ => rfl
 | x :: l, h => by
  have e : textS (x :: l) = joinW 0 x.words ++ 10 :: textS l := by simp [textS, lineS]
  have hn : (10 : UInt8) ∉ joinW 0 x.words := fun hc => (mbyte_ok (joinW_mbyte x.words 0 (h.good x (List.mem_cons_self ..)) 10 hc)).2.2 rfl
  rw [e, parts, parts_some hn, parts_text2 l h.tail]
  rfl
theorem lrun_text2 : ∀ (l : List TLine) (i : Nat) (out : List TLine), MGood l → lrun ((l.map fun x => joinW 0 x.words) ++ [[]]) i out = (out ++ numF i l, 0, 0)
 | [], i, out, _ => by
  show lrun [[]] i out = _
  have : words [] = [] := rfl
  simp [lrun, this, numF]
 | x :: l, i, out, h => by
  have hg := h.good x (List.mem_cons_self ..)
  have hw := words_join2 x.words hg
  have h1 := h.some x (List.mem_cons_self ..)
  have h2 := h.few x (List.mem_cons_self ..)
  have hp : (joinW 0 x.words).all pbyte = true := List.all_eq_true.2 fun c hc => (mbyte_ok (joinW_mbyte x.words 0 hg c hc)).2.1
  rw [List.map_cons, List.cons_append, lrun, hp, hw, decide_eq_false (show ¬ (x.words.length : Int) > 64 by omega), decide_eq_true (show (x.words.length : Int) > 0 by omega)]
  simp only [Bool.not_true, Bool.false_eq_true, if_false, if_true]
  rw [lrun_text2 l (i + 1) _ h.tail, numF]
  simp
theorem lines_text2 (l : List TLine) (h : MGood l) (hb : (textS l).length ≤ 16384) : lines (textS l) = (numF 0 l, 0, 0) := by
 unfold lines
 rw [decide_eq_false (show ¬ ((textS l).length : Int) > 16384 by omega), splitAt_parts, parts_text2 l h, lrun_text2 l 0 [] h]
 rfl
theorem iLines_good {i : TInt} (h : IV i) (hi : IIn i) : MGood (iLines i) :=
 ⟨fun x hx => (iLines_fl h hi x hx).some, fun x hx => Nat.le_trans (iLines_fl h hi x hx).few (by decide), fun x hx s hs => ((iLines_fl h hi x hx).each s hs).good⟩
def iW : List (List Str) → TInt → Option TInt
 | [], i => some i
 | w :: ws, i => if (iLine i w).1 = 0 then iW ws (iLine i w).2 else none
theorem iW_append : ∀ (a b : List (List Str)) (i : TInt), iW (a ++ b) i = (iW a i).bind (iW b)
 | [], b, i => rfl
 | w :: a, b, i => by
  rw [List.cons_append, iW, iW]
  split
  ·exact iW_append a b _
  ·rfl
theorem iRun_iW : ∀ (ls : List TLine) (i i' : TInt), iW (ls.map TLine.words) i = some i' → iRun ls i = (i', 0, 0)
 | [], i, i', h => by cases h; rfl
 | l :: ls, i, i', h => by
  rw [List.map_cons, iW] at h
  split at h
  ·rename_i h0
   rw [iRun, if_neg (not_not_intro h0)]
   exact iRun_iW ls _ _ h
  ·cases h
theorem iW_part {α : Type} [Inhabited α] {L : List α} {f : α → List Str} {P : List α → TInt} (h : ∀ k, k < L.length → iLine (P (L.take k)) (f (L.getD k default)) = (0, P (L.take (k + 1)))) : ∀ (n k : Nat), k + n = L.length → iW ((L.drop k).map f) (P (L.take k)) = some (P L)
 | 0, k, hk => by
  rw [List.drop_eq_nil_of_le (by omega), List.take_of_length_le (by omega)]; rfl
 | n + 1, k, hk => by
  have hlt : k < L.length := by omega
  have := h k hlt
  rw [List.getD, List.getElem?_eq_getElem hlt] at this
  rw [List.drop_eq_getElem_cons hlt, List.map_cons, iW]
  show (if (iLine (P (L.take k)) (f L[k])).1 = 0 then iW _ (iLine (P (L.take k)) (f L[k])).2 else none) = _
  rw [show iLine (P (L.take k)) (f L[k]) = (0, P (L.take (k + 1))) from this, if_pos rfl]
  exact iW_part h n (k + 1) (by omega)

end
end Go.Proofs.YtkaobkjcjodffaaGreatDoor