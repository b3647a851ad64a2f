/-
 The words of the text of a valid intent: plain.
 The lines of the text of a valid intent: plain.
-/
import Derived.Test.YtkaobkjcjodffaaGreatDoorTV1
import Derived.Test.YtkaobkjcjodffaaGreatDoorTK43B
import Derived.Test.YtkaobkjcjodffaaGreatDoorTC6
import Derived.Test.YtkaobkjcjodffaaGreatDoorTK54
set_option maxHeartbeats 20000000
set_option maxRecDepth 100000
namespace Go.Proofs.YtkaobkjcjodffaaGreatDoor
open Go Go.Pw
section
def Sp (s : Str) : Prop := s = [44] ∨ s = [61]
structure FW (s : Str) : Prop where
 len : s.length ≤ 24
 good : GW s ∨ Sp s
theorem gw_join {a b : Str} {c : UInt8} (ha : GW a) (hc : gbyte c = true) (hb : GW b) : GW ((a ++ [c]) ++ b) := by
 refine ⟨by simp [ha.ne], fun x hx => ?_⟩
 rcases List.mem_append.1 hx with hx | hx
 ·rcases List.mem_append.1 hx with hx | hx
  ·exact ha.all x hx
  ·rw [List.mem_singleton.1 hx]; exact hc
 ·exact hb.all x hx
theorem fw_name {s : Str} (h : vname s = true) : FW s := ⟨vname_len h, .inl (vname_gw h)⟩
theorem fw_key {s : Str} (h : (decide (s.length ≤ 24) && (!(s == []) && s.all gbyte)) = true) : FW s := by
 rw [Bool.and_eq_true, decide_eq_true_eq] at h
 exact ⟨h.1, .inl (key_gw h.2)⟩
theorem fw_dec {n : Int} (h : n ≤ 65535) : FW (dec n.toNat) := ⟨Nat.le_trans (dec5 h) (by decide), .inl (dec_gw _)⟩
theorem fw_nameS {s : Str} (h : okName s = true) : FW (nameS s) := by
 unfold nameS
 unfold okName at h
 split
 ·exact fw_key (by decide)
 ·rename_i hs
  rw [Bool.or_eq_true, beq_iff_eq] at h
  exact fw_name (h.resolve_left hs)
theorem fw_span {r : TRng} (h : PIn2 r) : FW (spanS r) := by
 have l1 := dec5 h.l1
 have l2 := dec5 h.h1
 unfold spanS
 split
 ·exact fw_dec h.l1
 ·refine ⟨?_, .inl (gw_join (dec_gw _) (by decide) (dec_gw _))⟩
  simp only [List.length_append, List.length_cons, List.length_nil]
  omega
theorem addrS_gw (a : Nat) : GW (addrS a) := by
 unfold addrS
 exact gw_join (gw_join (gw_join (dec_gw _) (by decide) (dec_gw _)) (by decide) (dec_gw _)) (by decide) (dec_gw _)
theorem fw_addr (a : Nat) : FW (addrS a) := ⟨Nat.le_trans (addrS_len a) (by decide), .inl (addrS_gw a)⟩
theorem fw_pfx {p : TPfx} (h : rvalid p = true) : FW (pfxS p) := ⟨pfxS_len p (rvalid_b h), .inl (pfxS_gw p)⟩
theorem fw_comma : FW [44] := ⟨by decide, .inr (.inl rfl)⟩
theorem fw_eq : FW [61] := ⟨by decide, .inr (.inr rfl)⟩
theorem fw_item {x : TItem} {g : Bool} (hf : FItem x) (hn : x.kind = 1 ∨ x.kind = 3 → vname x.name = true) : ∀ s ∈ itemW x g, FW s := by
 have two : ∀ {a b : Str}, FW a → FW b → ∀ s ∈ [a, b], FW s := fun ha hb s hs => by
  simp only [List.mem_cons, List.mem_nil_iff, or_false] at hs
  rcases hs with rfl | rfl
  ·exact ha
  ·exact hb
 unfold itemW
 split
 ·rename_i h; exact two (fw_key (by decide)) (fw_name (hn (.inr h.1)))
 split
 ·rename_i h; exact two (fw_key (by decide)) (fw_name (hn (.inr h)))
 split
 ·rename_i h; exact two (fw_key (by decide)) (fw_name (hn (.inl h)))
 split
 ·rename_i h; exact two (fw_key (by decide)) (fw_pfx (hf.pfx h).2)
 rename_i h1 h2 h3 h4
 have k4 : x.kind = 4 := by have := hf.kind; omega
 split
 ·rename_i h; exact two (fw_key (by decide)) (fw_span (hf.ports k4 (.inl h)))
 split
 ·rename_i h; exact two (fw_key (by decide)) (fw_span (hf.ports k4 (.inr h)))
 split
 ·intro s hs; rw [List.mem_singleton.1 hs]; exact fw_key (by decide)
 ·exact two (fw_key (by decide)) (fw_dec (by have := hf.proto k4; omega))
theorem vItem_name {x : TItem} {sv : Bool} (h : vItem x sv = true) : x.kind = 1 ∨ x.kind = 3 → vname x.name = true := by
 unfold vItem at h
 intro hk
 split at h
 ·simp only [Bool.and_eq_true] at h; exact h.1.2
 split at h
 ·omega
 split at h
 ·simp only [Bool.and_eq_true] at h; exact h.1
 ·omega
theorem fw_itemsN {l : List TItem} {g : Bool} (h : ∀ x ∈ l, ∀ s ∈ itemW x g, FW s) : ∀ k, k ≤ l.length → ∀ s ∈ itemsN l g k, FW s
 | 0, _, s, hs => by cases hs
 | k + 1, hk, s, hs => by
  rw [itemsN] at hs
  rcases List.mem_append.1 hs with hs | hs
  ·rcases List.mem_append.1 hs with hs | hs
   ·exact fw_itemsN h k (by omega) s hs
   ·split at hs
    ·rw [List.mem_singleton.1 hs]; exact fw_comma
    ·cases hs
  ·exact h _ (getD_memD (by omega)) s hs
theorem itemW_len (x : TItem) (g : Bool) : (itemW x g).length ≤ 2 ∧ 1 ≤ (itemW x g).length := by
 unfold itemW
 repeat' split
 all_goals exact ⟨Nat.le_of_ble_eq_true rfl, Nat.le_of_ble_eq_true rfl⟩
theorem itemsN_len (l : List TItem) (g : Bool) : ∀ k, (itemsN l g k).length ≤ 3 * k ∧ (0 < k → (itemsN l g k).length + 1 ≤ 3 * k)
 | 0 => ⟨Nat.le_refl _, fun h => by omega⟩
 | k + 1 => by
  have h1 := itemsN_len l g k
  have h2 := itemW_len (l.getD k default) g
  rw [itemsN, List.length_append, List.length_append]
  by_cases hk : 0 < k
  ·rw [if_pos hk]
   have := h1.2 hk
   simp only [List.length_cons, List.length_nil]
   omega
  ·rw [if_neg hk]
   simp only [List.length_nil]
   omega
theorem dig_g (d : Nat) (h : d < 10) : gbyte (UInt8.ofNat (48 + d)) = true := by
 have : ∀ d : Fin 10, gbyte (UInt8.ofNat (48 + d.val)) = true := by decide
 exact this ⟨d, h⟩
theorem twoS_gw {n : Int} (h : n < 100) : GW (twoS n) := by
 refine ⟨by simp [twoS], fun c hc => ?_⟩
 simp only [twoS, List.mem_cons, List.mem_nil_iff, or_false] at hc
 rcases hc with rfl | rfl
 ·exact dig_g _ (by omega)
 ·exact dig_g _ (by omega)
theorem timeS_gw {n : Int} (h : n ≤ 1440) : GW (timeS n) := gw_join (twoS_gw (by omega)) (by decide) (twoS_gw (by omega))
theorem dayName_fw {d : Nat} (h : d < 7) : FW (dayNames.getD d []) := by
 have : ∀ d : Fin 7, (decide ((dayNames.getD d.val []).length ≤ 24) && (!((dayNames.getD d.val []) == []) && (dayNames.getD d.val []).all gbyte)) = true := by decide
 exact fw_key (this ⟨d, h⟩)
theorem fw_wItem {d : Nat} {r : TRng} (hd : d < 7) (hr : (d : Int) * 1440 ≤ r.lo ∧ r.lo ≤ r.hi ∧ r.hi < d * 1440 + 1440) : ∀ s ∈ wItem d r, FW s := by
 intro s hs
 simp only [wItem, List.mem_cons, List.mem_nil_iff, or_false] at hs
 rcases hs with rfl | rfl
 ·exact dayName_fw hd
 ·refine ⟨by simp [timeS, twoS], .inl (gw_join (timeS_gw (by omega)) (by decide) (timeS_gw (by omega)))⟩
theorem fw_wPuts {d : Nat} (hd : d < 7) : ∀ (xs : List TRng) (o : List Str), (∀ r ∈ xs, (d : Int) * 1440 ≤ r.lo ∧ r.lo ≤ r.hi ∧ r.hi < d * 1440 + 1440) → (∀ s ∈ o, FW s) → ∀ s ∈ xs.foldl (wPut d) o, FW s
 | [], _, _, ho => ho
 | x :: xs, o, hx, ho => by
  refine fw_wPuts hd xs (wPut d o x) (fun r hr => hx r (List.mem_cons_of_mem _ hr)) fun s hs => ?_
  unfold wPut at hs
  rcases List.mem_append.1 hs with hs | hs
  ·split at hs
   ·rcases List.mem_append.1 hs with hs | hs
    ·exact ho s hs
    ·rw [List.mem_singleton.1 hs]; exact fw_comma
   ·exact ho s hs
  ·exact fw_wItem hd (hx x (List.mem_cons_self ..)) s hs
theorem fw_wDays (l : List TRng) : ∀ n, n ≤ 7 → ∀ s ∈ wDays l n, FW s
 | 0, _, s, hs => by cases hs
 | n + 1, hn, s, hs => by
  rw [wDays_succ] at hs
  exact fw_wPuts (by omega) _ _ (wDay_in l n) (fw_wDays l n (by omega)) s hs
theorem fw_wFormat (l : List TRng) : ∀ s ∈ wFormat l, FW s := by
 unfold wFormat
 split
 ·split
  ·intro s hs; rw [List.mem_singleton.1 hs]; exact fw_key (by decide)
  ·exact fw_wDays l 7 (by omega)
 ·intro s hs; cases hs
theorem wOk_len {l : List TRng} (h : wOkB l = true) : 1 ≤ (wFormat l).length ∧ (wFormat l).length ≤ 49 := by
 unfold wOkB at h
 simp only [Bool.and_eq_true, decide_eq_true_eq] at h
 omega
structure FL (w : List Str) : Prop where
 some : 0 < w.length
 few : w.length ≤ 60
 each : ∀ s ∈ w, FW s
theorem FL.wle {w : List Str} (h : FL w) : WLe2 w := ⟨h.few, fun s hs => Nat.le_trans (h.each s hs).len (by decide)⟩
theorem all2 {Q : Str → Prop} {a b : List Str} (ha : ∀ s ∈ a, Q s) (hb : ∀ s ∈ b, Q s) : ∀ s ∈ a ++ b, Q s := fun s hs => (List.mem_append.1 hs).elim (ha s) (hb s)
theorem all0 {Q : Str → Prop} : ∀ s ∈ ([] : List Str), Q s := fun s hs => by cases hs
theorem all1 {Q : Str → Prop} {a : Str} {l : List Str} (ha : Q a) (hl : ∀ s ∈ l, Q s) : ∀ s ∈ a :: l, Q s := fun s hs => by
 rcases List.mem_cons.1 hs with rfl | hs
 ·exact ha
 ·exact hl s hs
theorem fl_def {l : List TDef} {sv : Bool} (h : VDef l sv) (hi : ∀ d ∈ l, ∀ x ∈ d.items, ItIn x) (g : Bool) {d : TDef} (hd : d ∈ l) : FL (defW g d) := by
 have h1 := itemsN_len d.items g d.items.length
 have h2 := h.i2 d hd
 unfold defW itemsW
 refine ⟨by simp, ?_, ?_⟩
 ·simp only [List.length_append, List.length_cons, List.length_nil]; omega
 ·refine all2 (all1 ?_ (all1 (fw_name (h.name d hd)) (all1 fw_eq all0))) (fw_itemsN (fun x hx => fw_item (vItem_f (h.items d hd x hx) (hi d hd x hx)) (vItem_name (h.items d hd x hx))) _ (Nat.le_refl _))
  cases g <;> exact fw_key (by decide)
theorem fl_win {i : TInt} (h : IV i) {d : TWin} (hd : d ∈ i.windows) : FL (winW d) := by
 have h1 := wOk_len (h.wok d hd)
 unfold winW
 refine ⟨by simp, ?_, all2 (all1 (fw_key (by decide)) (all1 (fw_name (h.wname d hd)) (all1 fw_eq all0))) (fw_wFormat _)⟩
 simp only [List.length_append, List.length_cons, List.length_nil]; omega
theorem stm_names {s : TStm} (h : vStm s = true) : okName s.src = true ∧ okName s.dst = true ∧ okName s.service = true ∧ okName s.cls = true ∧ okName s.during = true ∧ okName s.exSrc = true ∧ okName s.exDst = true := by
 unfold vStm stmNames at h
 simp only [Bool.and_eq_true, List.all_cons, List.all_nil, and_true] at h
 obtain ⟨⟨a, b, c, d, e, f, g⟩, _⟩ := h
 exact ⟨a, b, c, d, e, f, g⟩
theorem okName_v {s : Str} (h : okName s = true) (hs : ¬ s = []) : vname s = true := by
 unfold okName at h
 rw [Bool.or_eq_true, beq_iff_eq] at h
 exact h.resolve_left hs
theorem fl_stm {s : TStm} (h : vStm s = true) : FL (stmW s) := by
 obtain ⟨n1, n2, n3, n4, n5, n6, n7⟩ := stm_names h
 have hp := stm_prio h
 have e0 : (stmW0 s).length = 5 := rfl
 have a0 : ∀ x ∈ stmW0 s, FW x := by
  unfold stmW0
  refine all1 ?_ (all1 (fw_nameS n1) (all1 (fw_key (by decide)) (all1 (fw_nameS n2) (all1 (fw_nameS n3) all0))))
  split <;> exact fw_key (by decide)
 have a1 : ∀ x ∈ stmW1 s, FW x := by
  unfold stmW1
  refine all2 a0 ?_
  split
  ·exact all1 (fw_key (by decide)) (all1 (fw_nameS n6) (all1 (fw_key (by decide)) (all1 (fw_nameS n7) all0)))
  ·exact all0
 have e1 : (stmW1 s).length ≤ 9 := by unfold stmW1; rw [List.length_append]; split <;> simp [e0]
 have e1' : 5 ≤ (stmW1 s).length := by unfold stmW1; rw [List.length_append]; omega
 have a2 : ∀ x ∈ stmW2 s, FW x := by
  unfold stmW2
  refine all2 a1 ?_
  split
  ·exact all0
  ·rename_i q; exact all1 (fw_key (by decide)) (all1 (fw_name (okName_v n4 q)) all0)
 have e2 : (stmW2 s).length ≤ 11 := by unfold stmW2; rw [List.length_append]; split <;> simp <;> omega
 have e2' : 5 ≤ (stmW2 s).length := by unfold stmW2; rw [List.length_append]; omega
 have a3 : ∀ x ∈ stmW3 s, FW x := by
  unfold stmW3
  refine all2 a2 ?_
  split
  ·exact all0
  ·rename_i q; exact all1 (fw_key (by decide)) (all1 (fw_name (okName_v n5 q)) all0)
 have e3 : (stmW3 s).length ≤ 13 := by unfold stmW3; rw [List.length_append]; split <;> simp <;> omega
 have e3' : 5 ≤ (stmW3 s).length := by unfold stmW3; rw [List.length_append]; omega
 refine ⟨?_, ?_, ?_⟩
 ·unfold stmW; rw [List.length_append]; omega
 ·unfold stmW; rw [List.length_append]; split <;> simp <;> omega
 ·unfold stmW
  refine all2 a3 ?_
  split
  ·exact all0
  ·exact all1 (fw_key (by decide)) (all1 (fw_dec (by omega)) all0)
theorem fl_pub {p : TPub} (h : vPub p = true) : FL (pubW p) := by
 obtain ⟨_, h2, h3, h4⟩ := pub_f h
 refine ⟨by simp [pubW], by simp [pubW], ?_⟩
 unfold pubW
 refine all1 (fw_key (by decide)) (all1 (fw_addr _) (all1 ?_ (all1 (fw_dec h2.2) (all1 (fw_key (by decide)) (all1 (fw_name h4) (all1 (fw_key (by decide)) (all1 (fw_addr _) (all1 (fw_dec h3.2) all0))))))))
 split <;> exact fw_key (by decide)
theorem hid_pin {x : THid} (h : vHid x = true) : PIn2 x.ports := by
 obtain ⟨_, _, h3, h4, h5⟩ := hid_f h
 exact ⟨by omega, by omega, by omega, by omega⟩
theorem fl_hid {x : THid} (h : vHid x = true) : FL (hidW x) := by
 obtain ⟨h1, h2, _⟩ := hid_f h
 refine ⟨by simp [hidW], by simp [hidW], ?_⟩
 unfold hidW
 exact all1 (fw_key (by decide)) (all1 (fw_name h1) (all1 (fw_key (by decide)) (all1 (fw_name h2) (all1 (fw_key (by decide)) (all1 (fw_addr _) (all1 (fw_key (by decide)) (all1 (fw_span (hid_pin h)) all0)))))))
theorem iLines_fl {i : TInt} (h : IV i) (hi : IIn i) : ∀ x ∈ iLines i, FL x.words := by
 intro x hx
 simp only [iLines, lGroups, lServices, lWindows, lStms, lPubs, lHids, List.mem_append, List.mem_map] at hx
 rcases hx with ((((⟨d, hd, rfl⟩ | ⟨d, hd, rfl⟩) | ⟨d, hd, rfl⟩) | ⟨d, hd, rfl⟩) | ⟨d, hd, rfl⟩) | ⟨d, hd, rfl⟩
 ·exact fl_def h.gs hi.gits true hd
 ·exact fl_def h.ss hi.sits false hd
 ·exact fl_win h hd
 ·exact fl_stm (h.stms d hd)
 ·exact fl_pub (h.pubs d hd)
 ·exact fl_hid (h.hids d hd)
theorem iLines_len {i : TInt} (h : IV i) : (iLines i).length ≤ 184 := by
 have h1 := h.gs.len
 have h2 := h.ss.len
 have h3 := h.wl
 have h4 := h.sl
 have h5 := h.pl
 have h6 := h.hl
 simp only [iLines, lGroups, lServices, lWindows, lStms, lPubs, lHids, List.length_append, List.length_map]
 omega
theorem iText_len {i : TInt} (h : IV i) (hi : IIn i) : (textS (iLines i)).length ≤ 541144 := by
 have h1 := textS_len2 (iLines i) fun x hx => (iLines_fl h hi x hx).wle
 have h2 := iLines_len h
 have : (iLines i).length * 2941 ≤ 184 * 2941 := Nat.mul_le_mul_right _ h2
 omega
theorem GGItem.iin {x : Topo} {y : TItem} (h : GGItem x y) : ItIn y := by
 rcases h with ⟨p, hp, rfl⟩ | ⟨e, _, rfl⟩ | rfl
 ·exact ⟨hp.1, Int.le_refl 0⟩
 ·exact ⟨⟨Int.le_refl 0, (by decide : (0 : Int) < 4294967296)⟩, Int.le_refl 0⟩
 ·exact ⟨⟨Int.le_refl 0, (by decide : (0 : Int) < 4294967296)⟩, Int.le_refl 0⟩
theorem GSItem.iin {y : TItem} (h : GSItem y) : ItIn y := by
 rcases h with ⟨p, r, _, hr, rfl⟩ | rfl | rfl | rfl
 ·exact ⟨⟨Int.le_refl 0, (by decide : (0 : Int) < 4294967296)⟩, hr.1⟩
 all_goals exact ⟨⟨Int.le_refl 0, (by decide : (0 : Int) < 4294967296)⟩, by decide⟩
theorem GDefs.mem {nm : List Str} {Q : TItem → Prop} {ds : List TDef} (h : GDefs nm Q ds) {d : TDef} (hd : d ∈ ds) : (1 ≤ d.items.length ∧ d.items.length ≤ 2) ∧ ∀ y ∈ d.items, Q y := by
 obtain ⟨k, hk⟩ := List.mem_iff_getElem?.1 hd
 exact (h.2 k d hk).2
theorem IGen.win {x : Topo} {n : Nat} {i : TInt} (h : IGen x n i) {d : TWin} (hd : d ∈ i.windows) : ∃ q, QW q ∧ d = ⟨[119, 111, 114, 107], (wParse (wWords q)).1⟩ := by
 rcases h.ws with e | ⟨q, hq, e⟩
 ·rw [e] at hd; cases hd
 ·rw [e, List.mem_singleton] at hd; exact ⟨q, hq, hd⟩
theorem IGen.big {x : Topo} {n : Nat} {i : TInt} (h : IGen x n i) (hn : n < 900) : IBig i := by
 have h1 := h.gs.1
 have h2 := h.ss.1
 have h3 : i.windows.length ≤ 1 := by
  rcases h.ws with e | ⟨q, _, e⟩ <;> rw [e] <;> simp
 have h4 := h.stl
 have h5 := h.pl
 have h6 := h.hl
 refine ⟨by omega, by omega, by omega, by omega, by omega, by omega, fun d hd => ?_, fun d hd => ?_, fun d hd => ?_⟩
 ·have := (h.gs.mem hd).1; omega
 ·have := (h.ss.mem hd).1; omega
 ·obtain ⟨q, _, rfl⟩ := h.win hd
  have := (wParse_ok (wWords q)).2
  dsimp only; omega
theorem IGen.iin {x : Topo} {n : Nat} {i : TInt} (h : IGen x n i) : IIn2 i := by
 refine ⟨⟨fun d hd y hy => ((h.gs.mem hd).2 y hy).iin, fun d hd y hy => ((h.ss.mem hd).2 y hy).iin, fun d hd => ?_⟩, fun p hp => (h.pub p hp).2.2.2.2, fun p hp => (h.hid p hp).2.2.1⟩
 obtain ⟨q, _, rfl⟩ := h.win hd
 have := wParse_ok (wWords q)
 exact ⟨by have := this.2; dsimp only; omega, this.1⟩
theorem iFormat_len {i : TInt} (hi : IIn i) : (iFormat i).1.length ≤ 541144 := by
 unfold iFormat
 split
 ·rename_i h; exact iText_len (iValid_v h) hi
 ·exact Nat.zero_le _
theorem TGen.epfx {m : Nat} {t : Topo} (h : TGen m t) : ∀ e ∈ t.edges, PfxIn e.pfx := fun e he => by
 obtain ⟨k, hk⟩ := List.mem_iff_getElem?.1 he
 rw [(h.edges k e hk).pfx, List.getD]
 cases hs : subnets[k]? with
 | none => exact ⟨Int.le_refl 0, (by decide : (0 : Int) < 4294967296)⟩
 | some p => exact subnets_in (List.mem_of_getElem? hs)
variable {Gl : Glob}
attribute [local irreducible] PW PWL OpP PCalls PWO PWT bothT
theorem IGen.sp {x : Topo} {n : Nat} {i : TInt} (h : IGen x n i) (hn : n < 900) : SpI 20000 i := by
 have h1 := h.gs.1
 have h2 := h.ss.1
 have h3 : i.windows.length ≤ 1 := by
  rcases h.ws with e | ⟨q, _, e⟩ <;> rw [e] <;> simp
 have h4 := h.stl
 have h5 := h.pl
 have h6 := h.hl
 have hi := h.iin
 refine ⟨by omega, by omega, by omega, by omega, by omega, by omega, fun d hd => ⟨by have := (h.gs.mem hd).1; omega, hi.gits d hd⟩, fun d hd => ⟨by have := (h.ss.mem hd).1; omega, hi.sits d hd⟩, fun d hd => ⟨?_, (hi.wins d hd).2⟩, hi.pins, hi.hins⟩
 obtain ⟨q, _, rfl⟩ := h.win hd
 have := (wParse_ok (wWords q)).2
 dsimp only; omega
theorem c_draw (l : List Int) (hl : Tp l) (j : Nat) (hj : j ≤ l.length) : Gen Gl 24 [] l j fun r => ∃ t : TInt, SpI 20003 t ∧ r = eIntent t := by
 refine PCalls.of hT Tryz.func24 rfl 1 (Nat.le_refl _) fun B hD => ?_
 refine pw_norm rfl ?_
 (try refine zS ?_)
 (refine pl_op rfl (zCl [0] e13 (c12 l hl j hj 3 (by decide) (by decide)) (fun r s hq => ?_)); obtain ⟨j1, T, c, ⟨m, hmn, hg⟩, hj1, rfl, rfl⟩ := hq; refine ⟨rfl, rfl, ?_⟩; (refine zNp ?_))
 have hT1 := hg.el
 have hT2 := hg.dl
 have hT3 := hg.n6
 refine pl_frzV (fun i => Nat.ble 2 i) 6 (y := eTopo T) rfl (by (refine .inr (.inr (.inr (.inr (.inl ⟨_, _, rfl, rfl, ?_⟩)))); (repeat (first | exact True.intro | refine ⟨.inr (.inl rfl), ?_⟩ | refine ⟨.inr (.inr (.inl ⟨rfl, rfl⟩)), ?_⟩ | refine ⟨.inr (.inr (.inr (.inl ⟨_, _, _, _, _, _, rfl, rfl, rfl, rfl, rfl⟩))), ?_⟩ | refine ⟨.inr (.inr (.inr (.inl ⟨_, _, _, _, _, _, rfl, rfl, rfl, (by simp only [List.length_map, List.length_set, List.length_append, List.length_cons, List.length_nil]), rfl⟩))), ?_⟩)))) ?_
 (refine zNp ?_)
 (refine pl_op rfl (zCl [0] e12 (c_gIntent l hl j1 hj1 T 3 (by decide) (by omega) (by omega) hg.epfx) (fun r s hq => ?_)); obtain ⟨j2, ⟨I, hI, rfl⟩, hj2, rfl⟩ := hq; refine ⟨rfl, rfl, ?_⟩; (refine zNp ?_))
 (try refine zS ?_)
 (refine pl_op rfl (zCl [0] e17 (c13n l hl j2 hj2 3 (by decide) (by decide)) (fun r s hq => ?_)); obtain ⟨j3, ⟨m3, hm3, rfl⟩, hj3, rfl⟩ := hq; refine ⟨rfl, rfl, ?_⟩; (refine zNp ?_))
 (try refine zS ?_)
 have hsp := hI.sp (by decide)
 refine zT ?_ ?_ <;> intro h <;> refine zNq ?_
 ·(try refine zS ?_)
  (refine pl_op rfl (zCl [0] e26 (c_spoil l hl j3 hj3 I 20000 (by decide) hsp) (fun r s hq => ?_)); obtain ⟨j4, ⟨t, ht, rfl⟩, hj4, rfl⟩ := hq; refine ⟨rfl, rfl, ?_⟩; (refine zNp ?_))
  (try refine zS ?_)
  exact ⟨_, _, _, rfl, ⟨j4, ⟨t, ht, rfl⟩, hj4, rfl⟩, .inr (.inl rfl), ⟨.inr (.inl rfl), trivial⟩, rfl, rfl⟩
 ·(try refine zS ?_)
  exact ⟨_, _, _, rfl, ⟨j3, ⟨I, hsp.mono (by decide), rfl⟩, hj3, rfl⟩, .inr (.inl rfl), ⟨.inr (.inl rfl), trivial⟩, rfl, rfl⟩
def stmP (s : TStm) : List PV := [.bool s.permit, .str s.src, .str s.dst, .str s.service, .bool s.excepted, .str s.exSrc, .str s.exDst, .str s.cls, .str s.during, .int .i64 s.prio]
theorem c_words (s : TStm) (h : 0 ≤ s.prio ∧ s.prio < 10000000) : PFun Tryz.prog Gl 33 [eStm s] fun r => r = .sl ((stmW s).map .str) := by
 (refine PFun.of hT Tryz.func33 rfl fun B hD => ?_; refine pw_norm rfl ?_)
 (try refine zS ?_)
 refine zDr [[0,1,3,4,6,7],[2,5,8,9],[10]] ?_
 (refine zDgo ?_)
 (refine po_step rfl rfl (op_fun (c_name s.src) rfl rfl e86 zLe rfl (fun r hr => ?_)); subst hr; refine ⟨rfl, zLok, ?_⟩; refine zDn ?_)
 (refine zDgo ?_)
 (refine po_step rfl rfl (op_fun (c_name s.dst) rfl rfl e86 zLe rfl (fun r hr => ?_)); subst hr; refine ⟨rfl, zLok, ?_⟩; refine zDn ?_)
 (refine zDgo ?_)
 (refine po_step rfl rfl (op_fun (c_name s.service) rfl rfl e86 zLe rfl (fun r hr => ?_)); subst hr; refine ⟨rfl, zLok, ?_⟩; refine zDn ?_)
 (refine zDgo ?_)
 (refine po_step rfl rfl (op_litm hT rfl rfl rfl rfl rfl (by decide) rfl rfl rfl rfl ⟨zLok, ?_⟩); refine zDn ?_)
 (refine zDgo ?_)
 (try refine zS ?_)
 refine zNq ?_
 refine pw_joinX hD (fun _ : Unit => True) (fun _ => [(3, .msl 1 1 0 5 5), (15, .any), (16, .any), (17, .any)]) (fun _ => [.box (stmP s), .arr 1 ((stmW0 s).map .str) 5]) 2 rfl (fun _ => rfl) (fun _ => rfl) (fun _ => rfl) ?_ ?_
 ·refine zT ?_ ?_ <;> intro h1 <;> refine zNq ?_
  ·(try refine zS ?_)
   (refine pl_op rfl (op_of (v_indexm hT rfl rfl rfl rfl rfl (by decide) (by decide) (by decide)) ?_); (refine zNp ?_))
   (refine pl_op rfl (op_storeE' (x0 := .str [100, 101, 110, 121]) (x1 := .str [97, 108, 108, 111, 119]) (xs' := (stmW0 s).map .str) hT rfl rfl rfl rfl rfl (by decide) (rfl) rfl rfl rfl rfl (Nat.le_of_ble_eq_true rfl) rfl (by unfold stmW0; rw [h1]; rfl) ?_); (refine zNp ?_))
   (try refine zS ?_)
   exact ⟨(), trivial, zLe, zLes⟩
  ·have e0 : stmW0 s = [[100, 101, 110, 121], nameS s.src, [45, 62], nameS s.dst, nameS s.service] := by
    rw [Bool.not_eq_true] at h1
    unfold stmW0; rw [h1]; rfl
   (try refine zS ?_)
   refine ⟨(), trivial, zLe, ?_⟩
   rw [e0]
   (exact zLes)
 rintro _ _
 refine zNq ?_
 (try refine zS ?_)
 have l0 : (stmW0 s).length = 5 := rfl
 refine pw_joinX hD (fun _ : Nat => True) (fun c => [(3, .msl 1 2 0 ((stmW1 s).map PV.str).length c), (13, .any), (16, .any), (19, .any)]) (fun c => [.box (stmP s), .dead, .arr 1 ((stmW1 s).map .str) c]) 3 rfl (fun _ => rfl) (fun _ => rfl) (fun _ => rfl) ?_ ?_
 ·refine zT ?_ ?_ <;> intro h1 <;> refine zNq ?_
  ·have e1 : stmW1 s = stmW0 s ++ [[101, 120, 99, 101, 112, 116], nameS s.exSrc, [45, 62], nameS s.exDst] := by unfold stmW1; rw [h1]; rfl
   rw [e1]
   refine zDr [[0,1,2,4,5],[3,6],[7],[8],[9]] ?_
   refine zDn ?_
   refine zD ?_
   (refine po_step rfl rfl (op_append (b := 16) hT rfl rfl rfl rfl rfl rfl (.inl (Nat.zero_lt_succ _)) rfl rfl (by simp; omega) (fun c1 _ hcap => ⟨zLok, ?_⟩)); refine zDn ?_)
   refine zD ?_
   refine ⟨c1, trivial, ?_, ?_⟩
   all_goals simp only [List.map_append, List.length_append]
   ·(exact zLe)
   ·(exact zLes)
  ·have e1 : stmW1 s = stmW0 s := by
    rw [Bool.not_eq_true] at h1
    unfold stmW1; rw [h1]; exact List.append_nil _
   rw [e1]
   refine pw_ghost 1 ?_
   refine zNq ?_
   (refine pw_mv 2 1 hD rfl rfl rfl rfl rfl ?_; refine pw_norm rfl ?_)
   (try refine zS ?_)
   exact ⟨5, trivial, zLe, zLes⟩
 intro c _
 refine zNq ?_
 (refine pw_mv 1 2 hD rfl rfl rfl rfl rfl ?_; refine pw_norm rfl ?_)
 (refine pw_trim 2 hD rfl rfl ?_; refine pw_norm rfl ?_)
 have l1 : (stmW1 s).length ≤ 9 := by unfold stmW1; rw [List.length_append]; split <;> simp [l0]
 generalize hW : stmW1 s = W at l1 ⊢
 refine zNq ?_
 (try refine zS ?_)
 refine pw_joinX hD (fun _ : Nat => True) (fun c => [(3, .msl 1 1 0 ((stmW2 s).map PV.str).length c), (31, .any)]) (fun c => [.box (stmP s), .arr 1 ((stmW2 s).map .str) c]) 2 rfl (fun _ => rfl) (fun _ => rfl) (fun _ => rfl) ?_ ?_
 ·refine zT ?_ ?_ <;> intro h1 <;> refine zNq ?_
  ·have e1 : stmW2 s = W ++ [[118, 105, 97], s.cls] := by unfold stmW2; rw [hW, if_neg h1]
   rw [e1]
   (try refine zS ?_)
   (refine pl_append (b := 16) hT hD rfl rfl rfl rfl rfl rfl rfl rfl (.inl (Nat.zero_lt_succ _)) rfl rfl (by simp; omega) (fun c1 _ hcap => ?_); (refine zNp ?_))
   (try refine zS ?_)
   refine ⟨c1, trivial, ?_, ?_⟩
   all_goals simp only [List.map_append, List.length_append]
   ·(exact zLe)
   ·(exact zLes)
  ·have e1 : stmW2 s = W := by unfold stmW2; rw [hW, if_pos (Decidable.not_not.1 h1)]; exact List.append_nil _
   rw [e1]
   (try refine zS ?_)
   exact ⟨c, trivial, zLe, zLes⟩
 have l2 : (stmW2 s).length ≤ 11 := by unfold stmW2; rw [hW, List.length_append]; split <;> simp <;> omega
 clear hW l1 c
 intro c _
 generalize hW : stmW2 s = W at l2 ⊢
 have l1 := l2
 clear l2
 refine zNq ?_
 (try refine zS ?_)
 refine pw_joinX hD (fun _ : Nat => True) (fun c => [(3, .msl 1 1 0 ((stmW3 s).map PV.str).length c), (39, .any)]) (fun c => [.box (stmP s), .arr 1 ((stmW3 s).map .str) c]) 2 rfl (fun _ => rfl) (fun _ => rfl) (fun _ => rfl) ?_ ?_
 ·refine zT ?_ ?_ <;> intro h1 <;> refine zNq ?_
  ·have e1 : stmW3 s = W ++ [[100, 117, 114, 105, 110, 103], s.during] := by unfold stmW3; rw [hW, if_neg h1]
   rw [e1]
   (try refine zS ?_)
   (refine pl_append (b := 16) hT hD rfl rfl rfl rfl rfl rfl rfl rfl (.inl (Nat.zero_lt_succ _)) rfl rfl (by simp; omega) (fun c1 _ hcap => ?_); (refine zNp ?_))
   (try refine zS ?_)
   refine ⟨c1, trivial, ?_, ?_⟩
   all_goals simp only [List.map_append, List.length_append]
   ·(exact zLe)
   ·(exact zLes)
  ·have e1 : stmW3 s = W := by unfold stmW3; rw [hW, if_pos (Decidable.not_not.1 h1)]; exact List.append_nil _
   rw [e1]
   (try refine zS ?_)
   exact ⟨c, trivial, zLe, zLes⟩
 have l2 : (stmW3 s).length ≤ 13 := by unfold stmW3; rw [hW, List.length_append]; split <;> simp <;> omega
 clear hW l1 c
 intro c _
 generalize hW : stmW3 s = W at l2 ⊢
 have l1 := l2
 clear l2
 refine zNq ?_
 (try refine zS ?_)
 refine pw_joinX hD (fun _ : Nat => True) (fun c => [(3, .msl 1 1 0 ((stmW s).map PV.str).length c), (47, .any)]) (fun c => [.box (stmP s), .arr 1 ((stmW s).map .str) c]) 2 rfl (fun _ => rfl) (fun _ => rfl) (fun _ => rfl) ?_ ?_
 ·refine zT ?_ ?_ <;> intro h1 <;> refine zNq ?_
  ·have e1 : stmW s = W ++ [[112, 114, 105, 111, 114, 105, 116, 121], dec s.prio.toNat] := by unfold stmW; rw [hW, if_neg h1]
   rw [e1]
   (try refine zS ?_)
   (refine pl_append (b := 16) hT hD rfl rfl rfl rfl rfl rfl rfl rfl (.inl (Nat.zero_lt_succ _)) rfl rfl (by simp; omega) (fun c1 _ hcap => ?_); (refine zNp ?_))
   (try refine zS ?_)
   refine ⟨c1, trivial, ?_, ?_⟩
   all_goals simp only [List.map_append, List.length_append]
   ·(exact zLe)
   ·(exact zLes)
  ·have e1 : stmW s = W := by unfold stmW; rw [hW, if_pos (Decidable.not_not.1 h1)]; exact List.append_nil _
   rw [e1]
   (try refine zS ?_)
   exact ⟨c, trivial, zLe, zLes⟩
 have l2 : (stmW s).length ≤ 15 := by unfold stmW; rw [hW, List.length_append]; split <;> simp <;> omega
 clear hW l1 c
 intro c _
 generalize hW : stmW s = W at l2 ⊢
 have l1 := l2
 clear l2
 refine zNq ?_
 (try refine zS ?_)
 subst hW
 exact ret0 _ (.sl ((stmW s).map .str)) rfl rfl (.inr (.inr (.inr (.inl ⟨_, _, _, _, _, _, rfl, rfl, rfl, rfl, rfl⟩)))) rfl
instance iWords (s : TStm) : ConF Tryz.prog Gl 33 [.agg [.bool s.permit, .str s.src, .str s.dst, .str s.service, .bool s.excepted, .str s.exSrc, .str s.exDst, .str s.cls, .str s.during, .int .i64 s.prio]] (0 ≤ s.prio ∧ s.prio < 10000000) (.sl ((stmW s).map .str)) := ⟨e33, fun h => c_words s h⟩

end
end Go.Proofs.YtkaobkjcjodffaaGreatDoor