/-
 The words of the text of a valid intent: plain.
 The lines of the text of a valid intent: plain.
 Appended numbers, the texts of addresses and prefixes, as the program writes them.
 Prefixes as texts, as the program writes them.
 source.Join, walked at the world's level: it writes into a strings.Builder.
-/
import Derived.Test.YtkaobkjcjodffaaGreatDoorHM12
import Derived.Test.YtkaobkjcjodffaaGreatDoorHK43B
import Derived.Test.YtkaobkjcjodffaaGreatDoorHC6
import Derived.Test.YtkaobkjcjodffaaGreatDoorHK53
import Derived.Test.YtkaobkjcjodffaaGreatDoorHShelf2
import Derived.Test.YtkaobkjcjodffaaGreatDoorHB6
import Derived.Test.YtkaobkjcjodffaaGreatDoorHTab
import Derived.BigCall
import Derived.Test.YtkaobkjcjodffaaGreatDoorHK51
import Derived.Test.YtkaobkjcjodffaaGreatDoorGPwApX
set_option maxHeartbeats 20000000
set_option maxRecDepth 100000
namespace Go.Proofs.YtkaobkjcjodffaaGreatDoor
open Go Go.Pw
section
def Sp (s : Str) : Prop := s = [44] ∨ s = [61]
structure FW (s : Str) : Prop where
 len : s.length ≤ 24
 good : GW s ∨ Sp s
theorem gw_join {a b : Str} {c : UInt8} (ha : GW a) (hc : gbyte c = true) (hb : GW b) : GW ((a ++ [c]) ++ b) := by
 refine ⟨by simp [ha.ne], fun x hx => ?_⟩
 rcases List.mem_append.1 hx with hx | hx
 ·rcases List.mem_append.1 hx with hx | hx
  ·exact ha.all x hx
  ·rw [List.mem_singleton.1 hx]; exact hc
 ·exact hb.all x hx
theorem fw_name {s : Str} (h : vname s = true) : FW s := ⟨vname_len h, .inl (vname_gw h)⟩
theorem fw_key {s : Str} (h : (decide (s.length ≤ 24) && (!(s == []) && s.all gbyte)) = true) : FW s := by
 rw [Bool.and_eq_true, decide_eq_true_eq] at h
 exact ⟨h.1, .inl (key_gw h.2)⟩
theorem fw_dec {n : Int} (h : n ≤ 65535) : FW (dec n.toNat) := ⟨Nat.le_trans (dec5 h) (by decide), .inl (dec_gw _)⟩
theorem fw_nameS {s : Str} (h : okName s = true) : FW (nameS s) := by
 unfold nameS
 unfold okName at h
 split
 ·exact fw_key (by decide)
 ·rename_i hs
  rw [Bool.or_eq_true, beq_iff_eq] at h
  exact fw_name (h.resolve_left hs)
theorem fw_span {r : TRng} (h : PIn2 r) : FW (spanS r) := by
 have l1 := dec5 h.l1
 have l2 := dec5 h.h1
 unfold spanS
 split
 ·exact fw_dec h.l1
 ·refine ⟨?_, .inl (gw_join (dec_gw _) (by decide) (dec_gw _))⟩
  simp only [List.length_append, List.length_cons, List.length_nil]
  omega
theorem addrS_gw (a : Nat) : GW (addrS a) := by
 unfold addrS
 exact gw_join (gw_join (gw_join (dec_gw _) (by decide) (dec_gw _)) (by decide) (dec_gw _)) (by decide) (dec_gw _)
theorem fw_addr (a : Nat) : FW (addrS a) := ⟨Nat.le_trans (addrS_len a) (by decide), .inl (addrS_gw a)⟩
theorem fw_pfx {p : TPfx} (h : rvalid p = true) : FW (pfxS p) := ⟨pfxS_len p (rvalid_b h), .inl (pfxS_gw p)⟩
theorem fw_comma : FW [44] := ⟨by decide, .inr (.inl rfl)⟩
theorem fw_eq : FW [61] := ⟨by decide, .inr (.inr rfl)⟩
theorem fw_item {x : TItem} {g : Bool} (hf : FItem x) (hn : x.kind = 1 ∨ x.kind = 3 → vname x.name = true) : ∀ s ∈ itemW x g, FW s := by
 have two : ∀ {a b : Str}, FW a → FW b → ∀ s ∈ [a, b], FW s := fun ha hb s hs => by
  simp only [List.mem_cons, List.mem_nil_iff, or_false] at hs
  rcases hs with rfl | rfl
  ·exact ha
  ·exact hb
 unfold itemW
 split
 ·rename_i h; exact two (fw_key (by decide)) (fw_name (hn (.inr h.1)))
 split
 ·rename_i h; exact two (fw_key (by decide)) (fw_name (hn (.inr h)))
 split
 ·rename_i h; exact two (fw_key (by decide)) (fw_name (hn (.inl h)))
 split
 ·rename_i h; exact two (fw_key (by decide)) (fw_pfx (hf.pfx h).2)
 rename_i h1 h2 h3 h4
 have k4 : x.kind = 4 := by have := hf.kind; omega
 split
 ·rename_i h; exact two (fw_key (by decide)) (fw_span (hf.ports k4 (.inl h)))
 split
 ·rename_i h; exact two (fw_key (by decide)) (fw_span (hf.ports k4 (.inr h)))
 split
 ·intro s hs; rw [List.mem_singleton.1 hs]; exact fw_key (by decide)
 ·exact two (fw_key (by decide)) (fw_dec (by have := hf.proto k4; omega))
theorem vItem_name {x : TItem} {sv : Bool} (h : vItem x sv = true) : x.kind = 1 ∨ x.kind = 3 → vname x.name = true := by
 unfold vItem at h
 intro hk
 split at h
 ·simp only [Bool.and_eq_true] at h; exact h.1.2
 split at h
 ·omega
 split at h
 ·simp only [Bool.and_eq_true] at h; exact h.1
 ·omega
theorem fw_itemsN {l : List TItem} {g : Bool} (h : ∀ x ∈ l, ∀ s ∈ itemW x g, FW s) : ∀ k, k ≤ l.length → ∀ s ∈ itemsN l g k, FW s
 | 0, _, s, hs => by cases hs
 | k + 1, hk, s, hs => by
  rw [itemsN] at hs
  rcases List.mem_append.1 hs with hs | hs
  ·rcases List.mem_append.1 hs with hs | hs
   ·exact fw_itemsN h k (by omega) s hs
   ·split at hs
    ·rw [List.mem_singleton.1 hs]; exact fw_comma
    ·cases hs
  ·exact h _ (getD_memD (by omega)) s hs
theorem itemW_len (x : TItem) (g : Bool) : (itemW x g).length ≤ 2 ∧ 1 ≤ (itemW x g).length := by
 unfold itemW
 repeat' split
 all_goals exact ⟨Nat.le_of_ble_eq_true rfl, Nat.le_of_ble_eq_true rfl⟩
theorem itemsN_len (l : List TItem) (g : Bool) : ∀ k, (itemsN l g k).length ≤ 3 * k ∧ (0 < k → (itemsN l g k).length + 1 ≤ 3 * k)
 | 0 => ⟨Nat.le_refl _, fun h => by omega⟩
 | k + 1 => by
  have h1 := itemsN_len l g k
  have h2 := itemW_len (l.getD k default) g
  rw [itemsN, List.length_append, List.length_append]
  by_cases hk : 0 < k
  ·rw [if_pos hk]
   have := h1.2 hk
   simp only [List.length_cons, List.length_nil]
   omega
  ·rw [if_neg hk]
   simp only [List.length_nil]
   omega
theorem dig_g (d : Nat) (h : d < 10) : gbyte (UInt8.ofNat (48 + d)) = true := by
 have : ∀ d : Fin 10, gbyte (UInt8.ofNat (48 + d.val)) = true := by decide
 exact this ⟨d, h⟩
theorem twoS_gw {n : Int} (h : n < 100) : GW (twoS n) := by
 refine ⟨by simp [twoS], fun c hc => ?_⟩
 simp only [twoS, List.mem_cons, List.mem_nil_iff, or_false] at hc
 rcases hc with rfl | rfl
 ·exact dig_g _ (by omega)
 ·exact dig_g _ (by omega)
theorem timeS_gw {n : Int} (h : n ≤ 1440) : GW (timeS n) := gw_join (twoS_gw (by omega)) (by decide) (twoS_gw (by omega))
theorem dayName_fw {d : Nat} (h : d < 7) : FW (dayNames.getD d []) := by
 have : ∀ d : Fin 7, (decide ((dayNames.getD d.val []).length ≤ 24) && (!((dayNames.getD d.val []) == []) && (dayNames.getD d.val []).all gbyte)) = true := by decide
 exact fw_key (this ⟨d, h⟩)
theorem fw_wItem {d : Nat} {r : TRng} (hd : d < 7) (hr : (d : Int) * 1440 ≤ r.lo ∧ r.lo ≤ r.hi ∧ r.hi < d * 1440 + 1440) : ∀ s ∈ wItem d r, FW s := by
 intro s hs
 simp only [wItem, List.mem_cons, List.mem_nil_iff, or_false] at hs
 rcases hs with rfl | rfl
 ·exact dayName_fw hd
 ·refine ⟨by simp [timeS, twoS], .inl (gw_join (timeS_gw (by omega)) (by decide) (timeS_gw (by omega)))⟩
theorem fw_wPuts {d : Nat} (hd : d < 7) : ∀ (xs : List TRng) (o : List Str), (∀ r ∈ xs, (d : Int) * 1440 ≤ r.lo ∧ r.lo ≤ r.hi ∧ r.hi < d * 1440 + 1440) → (∀ s ∈ o, FW s) → ∀ s ∈ xs.foldl (wPut d) o, FW s
 | [], _, _, ho => ho
 | x :: xs, o, hx, ho => by
  refine fw_wPuts hd xs (wPut d o x) (fun r hr => hx r (List.mem_cons_of_mem _ hr)) fun s hs => ?_
  unfold wPut at hs
  rcases List.mem_append.1 hs with hs | hs
  ·split at hs
   ·rcases List.mem_append.1 hs with hs | hs
    ·exact ho s hs
    ·rw [List.mem_singleton.1 hs]; exact fw_comma
   ·exact ho s hs
  ·exact fw_wItem hd (hx x (List.mem_cons_self ..)) s hs
theorem fw_wDays (l : List TRng) : ∀ n, n ≤ 7 → ∀ s ∈ wDays l n, FW s
 | 0, _, s, hs => by cases hs
 | n + 1, hn, s, hs => by
  rw [wDays_succ] at hs
  exact fw_wPuts (by omega) _ _ (wDay_in l n) (fw_wDays l n (by omega)) s hs
theorem fw_wFormat (l : List TRng) : ∀ s ∈ wFormat l, FW s := by
 unfold wFormat
 split
 ·split
  ·intro s hs; rw [List.mem_singleton.1 hs]; exact fw_key (by decide)
  ·exact fw_wDays l 7 (by omega)
 ·intro s hs; cases hs
theorem wOk_len {l : List TRng} (h : wOkB l = true) : 1 ≤ (wFormat l).length ∧ (wFormat l).length ≤ 49 := by
 unfold wOkB at h
 simp only [Bool.and_eq_true, decide_eq_true_eq] at h
 omega
structure FL (w : List Str) : Prop where
 some : 0 < w.length
 few : w.length ≤ 60
 each : ∀ s ∈ w, FW s
theorem FL.wle {w : List Str} (h : FL w) : WLe2 w := ⟨h.few, fun s hs => Nat.le_trans (h.each s hs).len (by decide)⟩
theorem all2 {Q : Str → Prop} {a b : List Str} (ha : ∀ s ∈ a, Q s) (hb : ∀ s ∈ b, Q s) : ∀ s ∈ a ++ b, Q s := fun s hs => (List.mem_append.1 hs).elim (ha s) (hb s)
theorem all0 {Q : Str → Prop} : ∀ s ∈ ([] : List Str), Q s := fun s hs => by cases hs
theorem all1 {Q : Str → Prop} {a : Str} {l : List Str} (ha : Q a) (hl : ∀ s ∈ l, Q s) : ∀ s ∈ a :: l, Q s := fun s hs => by
 rcases List.mem_cons.1 hs with rfl | hs
 ·exact ha
 ·exact hl s hs
theorem fl_def {l : List TDef} {sv : Bool} (h : VDef l sv) (hi : ∀ d ∈ l, ∀ x ∈ d.items, ItIn x) (g : Bool) {d : TDef} (hd : d ∈ l) : FL (defW g d) := by
 have h1 := itemsN_len d.items g d.items.length
 have h2 := h.i2 d hd
 unfold defW itemsW
 refine ⟨by simp, ?_, ?_⟩
 ·simp only [List.length_append, List.length_cons, List.length_nil]; omega
 ·refine all2 (all1 ?_ (all1 (fw_name (h.name d hd)) (all1 fw_eq all0))) (fw_itemsN (fun x hx => fw_item (vItem_f (h.items d hd x hx) (hi d hd x hx)) (vItem_name (h.items d hd x hx))) _ (Nat.le_refl _))
  cases g <;> exact fw_key (by decide)
theorem fl_win {i : TInt} (h : IV i) {d : TWin} (hd : d ∈ i.windows) : FL (winW d) := by
 have h1 := wOk_len (h.wok d hd)
 unfold winW
 refine ⟨by simp, ?_, all2 (all1 (fw_key (by decide)) (all1 (fw_name (h.wname d hd)) (all1 fw_eq all0))) (fw_wFormat _)⟩
 simp only [List.length_append, List.length_cons, List.length_nil]; omega
theorem stm_names {s : TStm} (h : vStm s = true) : okName s.src = true ∧ okName s.dst = true ∧ okName s.service = true ∧ okName s.cls = true ∧ okName s.during = true ∧ okName s.exSrc = true ∧ okName s.exDst = true := by
 unfold vStm stmNames at h
 simp only [Bool.and_eq_true, List.all_cons, List.all_nil, and_true] at h
 obtain ⟨⟨a, b, c, d, e, f, g⟩, _⟩ := h
 exact ⟨a, b, c, d, e, f, g⟩
theorem okName_v {s : Str} (h : okName s = true) (hs : ¬ s = []) : vname s = true := by
 unfold okName at h
 rw [Bool.or_eq_true, beq_iff_eq] at h
 exact h.resolve_left hs
theorem fl_stm {s : TStm} (h : vStm s = true) : FL (stmW s) := by
 obtain ⟨n1, n2, n3, n4, n5, n6, n7⟩ := stm_names h
 have hp := stm_prio h
 have e0 : (stmW0 s).length = 5 := rfl
 have a0 : ∀ x ∈ stmW0 s, FW x := by
  unfold stmW0
  refine all1 ?_ (all1 (fw_nameS n1) (all1 (fw_key (by decide)) (all1 (fw_nameS n2) (all1 (fw_nameS n3) all0))))
  split <;> exact fw_key (by decide)
 have a1 : ∀ x ∈ stmW1 s, FW x := by
  unfold stmW1
  refine all2 a0 ?_
  split
  ·exact all1 (fw_key (by decide)) (all1 (fw_nameS n6) (all1 (fw_key (by decide)) (all1 (fw_nameS n7) all0)))
  ·exact all0
 have e1 : (stmW1 s).length ≤ 9 := by unfold stmW1; rw [List.length_append]; split <;> simp [e0]
 have e1' : 5 ≤ (stmW1 s).length := by unfold stmW1; rw [List.length_append]; omega
 have a2 : ∀ x ∈ stmW2 s, FW x := by
  unfold stmW2
  refine all2 a1 ?_
  split
  ·exact all0
  ·rename_i q; exact all1 (fw_key (by decide)) (all1 (fw_name (okName_v n4 q)) all0)
 have e2 : (stmW2 s).length ≤ 11 := by unfold stmW2; rw [List.length_append]; split <;> simp <;> omega
 have e2' : 5 ≤ (stmW2 s).length := by unfold stmW2; rw [List.length_append]; omega
 have a3 : ∀ x ∈ stmW3 s, FW x := by
  unfold stmW3
  refine all2 a2 ?_
  split
  ·exact all0
  ·rename_i q; exact all1 (fw_key (by decide)) (all1 (fw_name (okName_v n5 q)) all0)
 have e3 : (stmW3 s).length ≤ 13 := by unfold stmW3; rw [List.length_append]; split <;> simp <;> omega
 have e3' : 5 ≤ (stmW3 s).length := by unfold stmW3; rw [List.length_append]; omega
 refine ⟨?_, ?_, ?_⟩
 ·unfold stmW; rw [List.length_append]; omega
 ·unfold stmW; rw [List.length_append]; split <;> simp <;> omega
 ·unfold stmW
  refine all2 a3 ?_
  split
  ·exact all0
  ·exact all1 (fw_key (by decide)) (all1 (fw_dec (by omega)) all0)
theorem fl_pub {p : TPub} (h : vPub p = true) : FL (pubW p) := by
 obtain ⟨_, h2, h3, h4⟩ := pub_f h
 refine ⟨by simp [pubW], by simp [pubW], ?_⟩
 unfold pubW
 refine all1 (fw_key (by decide)) (all1 (fw_addr _) (all1 ?_ (all1 (fw_dec h2.2) (all1 (fw_key (by decide)) (all1 (fw_name h4) (all1 (fw_key (by decide)) (all1 (fw_addr _) (all1 (fw_dec h3.2) all0))))))))
 split <;> exact fw_key (by decide)
theorem hid_pin {x : THid} (h : vHid x = true) : PIn2 x.ports := by
 obtain ⟨_, _, h3, h4, h5⟩ := hid_f h
 exact ⟨by omega, by omega, by omega, by omega⟩
theorem fl_hid {x : THid} (h : vHid x = true) : FL (hidW x) := by
 obtain ⟨h1, h2, _⟩ := hid_f h
 refine ⟨by simp [hidW], by simp [hidW], ?_⟩
 unfold hidW
 exact all1 (fw_key (by decide)) (all1 (fw_name h1) (all1 (fw_key (by decide)) (all1 (fw_name h2) (all1 (fw_key (by decide)) (all1 (fw_addr _) (all1 (fw_key (by decide)) (all1 (fw_span (hid_pin h)) all0)))))))
theorem iLines_fl {i : TInt} (h : IV i) (hi : IIn i) : ∀ x ∈ iLines i, FL x.words := by
 intro x hx
 simp only [iLines, lGroups, lServices, lWindows, lStms, lPubs, lHids, List.mem_append, List.mem_map] at hx
 rcases hx with ((((⟨d, hd, rfl⟩ | ⟨d, hd, rfl⟩) | ⟨d, hd, rfl⟩) | ⟨d, hd, rfl⟩) | ⟨d, hd, rfl⟩) | ⟨d, hd, rfl⟩
 ·exact fl_def h.gs hi.gits true hd
 ·exact fl_def h.ss hi.sits false hd
 ·exact fl_win h hd
 ·exact fl_stm (h.stms d hd)
 ·exact fl_pub (h.pubs d hd)
 ·exact fl_hid (h.hids d hd)
theorem iLines_len {i : TInt} (h : IV i) : (iLines i).length ≤ 184 := by
 have h1 := h.gs.len
 have h2 := h.ss.len
 have h3 := h.wl
 have h4 := h.sl
 have h5 := h.pl
 have h6 := h.hl
 simp only [iLines, lGroups, lServices, lWindows, lStms, lPubs, lHids, List.length_append, List.length_map]
 omega
theorem iText_len {i : TInt} (h : IV i) (hi : IIn i) : (textS (iLines i)).length ≤ 541144 := by
 have h1 := textS_len2 (iLines i) fun x hx => (iLines_fl h hi x hx).wle
 have h2 := iLines_len h
 have : (iLines i).length * 2941 ≤ 184 * 2941 := Nat.mul_le_mul_right _ h2
 omega
theorem GGItem.iin {x : Topo} {y : TItem} (h : GGItem x y) : ItIn y := by
 rcases h with ⟨p, hp, rfl⟩ | ⟨e, _, rfl⟩ | rfl
 ·exact ⟨hp.1, Int.le_refl 0⟩
 ·exact ⟨⟨Int.le_refl 0, (by decide : (0 : Int) < 4294967296)⟩, Int.le_refl 0⟩
 ·exact ⟨⟨Int.le_refl 0, (by decide : (0 : Int) < 4294967296)⟩, Int.le_refl 0⟩
theorem GSItem.iin {y : TItem} (h : GSItem y) : ItIn y := by
 rcases h with ⟨p, r, _, hr, rfl⟩ | rfl | rfl | rfl
 ·exact ⟨⟨Int.le_refl 0, (by decide : (0 : Int) < 4294967296)⟩, hr.1⟩
 all_goals exact ⟨⟨Int.le_refl 0, (by decide : (0 : Int) < 4294967296)⟩, by decide⟩
theorem GDefs.mem {nm : List Str} {Q : TItem → Prop} {ds : List TDef} (h : GDefs nm Q ds) {d : TDef} (hd : d ∈ ds) : (1 ≤ d.items.length ∧ d.items.length ≤ 2) ∧ ∀ y ∈ d.items, Q y := by
 obtain ⟨k, hk⟩ := List.mem_iff_getElem?.1 hd
 exact (h.2 k d hk).2
theorem IGen.win {x : Topo} {n : Nat} {i : TInt} (h : IGen x n i) {d : TWin} (hd : d ∈ i.windows) : ∃ q, QW q ∧ d = ⟨[119, 111, 114, 107], (wParse (wWords q)).1⟩ := by
 rcases h.ws with e | ⟨q, hq, e⟩
 ·rw [e] at hd; cases hd
 ·rw [e, List.mem_singleton] at hd; exact ⟨q, hq, hd⟩
theorem IGen.big {x : Topo} {n : Nat} {i : TInt} (h : IGen x n i) (hn : n < 900) : IBig i := by
 have h1 := h.gs.1
 have h2 := h.ss.1
 have h3 : i.windows.length ≤ 1 := by
  rcases h.ws with e | ⟨q, _, e⟩ <;> rw [e] <;> simp
 have h4 := h.stl
 have h5 := h.pl
 have h6 := h.hl
 refine ⟨by omega, by omega, by omega, by omega, by omega, by omega, fun d hd => ?_, fun d hd => ?_, fun d hd => ?_⟩
 ·have := (h.gs.mem hd).1; omega
 ·have := (h.ss.mem hd).1; omega
 ·obtain ⟨q, _, rfl⟩ := h.win hd
  have := (wParse_ok (wWords q)).2
  dsimp only; omega
theorem IGen.iin {x : Topo} {n : Nat} {i : TInt} (h : IGen x n i) : IIn2 i := by
 refine ⟨⟨fun d hd y hy => ((h.gs.mem hd).2 y hy).iin, fun d hd y hy => ((h.ss.mem hd).2 y hy).iin, fun d hd => ?_⟩, fun p hp => (h.pub p hp).2.2.2.2, fun p hp => (h.hid p hp).2.2.1⟩
 obtain ⟨q, _, rfl⟩ := h.win hd
 have := wParse_ok (wWords q)
 exact ⟨by have := this.2; dsimp only; omega, this.1⟩
theorem TGen.epfx {m : Nat} {t : Topo} (h : TGen m t) : ∀ e ∈ t.edges, PfxIn e.pfx := fun e he => by
 obtain ⟨k, hk⟩ := List.mem_iff_getElem?.1 he
 rw [(h.edges k e hk).pfx, List.getD]
 cases hs : subnets[k]? with
 | none => exact ⟨Int.le_refl 0, (by decide : (0 : Int) < 4294967296)⟩
 | some p => exact subnets_in (List.mem_of_getElem? hs)
variable {Gl : Glob}
attribute [local irreducible] PW PWL OpP PCalls PWO PWT bothT
theorem IGen.sp {x : Topo} {n : Nat} {i : TInt} (h : IGen x n i) (hn : n < 900) : SpI 20000 i := by
 have h1 := h.gs.1
 have h2 := h.ss.1
 have h3 : i.windows.length ≤ 1 := by
  rcases h.ws with e | ⟨q, _, e⟩ <;> rw [e] <;> simp
 have h4 := h.stl
 have h5 := h.pl
 have h6 := h.hl
 have hi := h.iin
 refine ⟨by omega, by omega, by omega, by omega, by omega, by omega, fun d hd => ⟨by have := (h.gs.mem hd).1; omega, hi.gits d hd⟩, fun d hd => ⟨by have := (h.ss.mem hd).1; omega, hi.sits d hd⟩, fun d hd => ⟨?_, (hi.wins d hd).2⟩, hi.pins, hi.hins⟩
 obtain ⟨q, _, rfl⟩ := h.win hd
 have := (wParse_ok (wWords q)).2
 dsimp only; omega
theorem c_draw (l : List Int) (hl : Tp l) (j : Nat) (hj : j ≤ l.length) : Gen Gl 24 [] l j fun r => ∃ t : TInt, SpI 20003 t ∧ r = eIntent t := by
 refine PCalls.of hT Tryz.func24 rfl 1 (Nat.le_refl _) fun B hD => ?_
 refine pw_norm rfl ?_
 (try refine zS ?_)
 (refine pl_op rfl (zCl [0] e13 (c12 l hl j hj 3 (by decide) (by decide)) (fun r s hq => ?_)); obtain ⟨j1, T, c, ⟨m, hmn, hg⟩, hj1, rfl, rfl⟩ := hq; refine ⟨rfl, rfl, ?_⟩; (refine zNp ?_))
 have hT1 := hg.el
 have hT2 := hg.dl
 have hT3 := hg.n6
 refine pl_frzV (fun i => Nat.ble 2 i) 6 (y := eTopo T) rfl (by (refine .inr (.inr (.inr (.inr (.inl ⟨_, _, rfl, rfl, ?_⟩)))); (repeat (first | exact True.intro | refine ⟨.inr (.inl rfl), ?_⟩ | refine ⟨.inr (.inr (.inl ⟨rfl, rfl⟩)), ?_⟩ | refine ⟨.inr (.inr (.inr (.inl ⟨_, _, _, _, _, _, rfl, rfl, rfl, rfl, rfl⟩))), ?_⟩ | refine ⟨.inr (.inr (.inr (.inl ⟨_, _, _, _, _, _, rfl, rfl, rfl, (by simp only [List.length_map, List.length_set, List.length_append, List.length_cons, List.length_nil]), rfl⟩))), ?_⟩)))) ?_
 (refine zNp ?_)
 (refine pl_op rfl (zCl [0] e12 (c_gIntent l hl j1 hj1 T 3 (by decide) (by omega) (by omega) hg.epfx) (fun r s hq => ?_)); obtain ⟨j2, ⟨I, hI, rfl⟩, hj2, rfl⟩ := hq; refine ⟨rfl, rfl, ?_⟩; (refine zNp ?_))
 (try refine zS ?_)
 (refine pl_op rfl (zCl [0] e17 (c13n l hl j2 hj2 3 (by decide) (by decide)) (fun r s hq => ?_)); obtain ⟨j3, ⟨m3, hm3, rfl⟩, hj3, rfl⟩ := hq; refine ⟨rfl, rfl, ?_⟩; (refine zNp ?_))
 (try refine zS ?_)
 have hsp := hI.sp (by decide)
 refine zT ?_ ?_ <;> intro h <;> refine zNq ?_
 ·(try refine zS ?_)
  (refine pl_op rfl (zCl [0] e26 (c_spoil l hl j3 hj3 I 20000 (by decide) hsp) (fun r s hq => ?_)); obtain ⟨j4, ⟨t, ht, rfl⟩, hj4, rfl⟩ := hq; refine ⟨rfl, rfl, ?_⟩; (refine zNp ?_))
  (try refine zS ?_)
  exact ⟨_, _, _, rfl, ⟨j4, ⟨t, ht, rfl⟩, hj4, rfl⟩, .inr (.inl rfl), ⟨.inr (.inl rfl), trivial⟩, rfl, rfl⟩
 ·(try refine zS ?_)
  exact ⟨_, _, _, rfl, ⟨j3, ⟨I, hsp.mono (by decide), rfl⟩, hj3, rfl⟩, .inr (.inl rfl), ⟨.inr (.inl rfl), trivial⟩, rfl, rfl⟩
theorem c153 (hG : GT Gl) (bs : Str) (cap u : Nat) (hu : u < 1000) (hb : Small bs) : PCalls Tryz.prog Gl 152 [.msl 1 0 0 bs.length cap, .int .u64 u, .int .i64 10] [.arr 1 (bs.map eByte) cap] fun r s => ∃ cap', r = .msl 1 0 0 (bs.length + (dec u).length) cap' ∧ s = [.arr 1 ((bs ++ dec u).map eByte) cap'] := by
 refine PCalls.of hT Tryz.func152 rfl 1 (Nat.le_refl _) fun B hD => ?_
 refine pw_norm rfl ?_
 unfold Small at hb
 have hdl := dec_small (n := u) (by omega)
 have hdp : 0 < (dec u).length := List.length_pos_iff.2 (by
  by_cases h : u < 10
  ·rw [dec_lt h]; simp
  ·rw [dec_ge h]; simp)
 (refine zGo ?_)
 refine pw_cond rfl (fun h => ?_) (fun h => ?_)
 ·have hu1 : u < 100 := by simp only [decide_eq_true_eq] at h; omega
  (refine zGo ?_)
  (refine pl_op rfl (op_of (v_conv (c := (u : Int)) hT rfl rfl rfl rfl (IntWalk.i64_in _ (by omega))) ?_); (refine zNp ?_))
  (refine zGo ?_)
  (refine pl_op rfl (op_fun (c149 u hu1) rfl rfl e186 zLe rfl (fun r hr => ?_)); subst hr; refine ⟨rfl, ?_⟩; (refine zNp ?_))
  (refine zGo ?_)
  (refine pl_op rfl (op_appendS (b := 1) (xs := bs) hT rfl rfl rfl rfl rfl rfl rfl (.inl hdp) (by omega) (fun cap' _ _ => ?_)); (refine zNp ?_))
  refine pl_pure hT rfl ?_
  refine pl_nil ?_
  change PW Tryz.prog Gl B _ _ _ _
  (refine pw_mv 0 1 hD rfl rfl rfl rfl rfl ?_; refine pw_norm rfl ?_)
  (refine pw_trim 1 hD rfl rfl ?_; refine pw_norm rfl ?_)
  (refine zGo ?_)
  exact ⟨_, _, _, rfl, ⟨cap', rfl, rfl⟩, .inr (.inl rfl), ⟨.inr (.inl rfl), trivial⟩, rfl, rfl⟩
 ·have hu1 : 100 ≤ u := by simp only [decide_eq_false_iff_not] at h; omega
  (refine zGo ?_)
  (refine pl_op rfl (op_fun (c150 hG u hu1 hu) rfl rfl e187 zLe rfl (fun r hr => ?_)); subst hr; refine ⟨rfl, ?_⟩; (refine zNp ?_))
  (refine zGo ?_)
  (refine pl_op rfl (op_of (v_sliceP (m := 3) hT rfl rfl rfl rfl rfl (by decide) (by decide)) ?_); (refine zNp ?_))
  (refine zGo ?_)
  (refine pl_op rfl (zCl [1] e188 (c151 u hu1 hu) (fun r s hq => ?_)); obtain ⟨rfl, x0, x1, x2, hdu, rfl⟩ := hq; refine ⟨rfl, rfl, ?_⟩; (refine zNp ?_))
  refine pl_nil ?_
  change PW Tryz.prog Gl B _ _ _ _
  refine pw_boxArr 1 (cs := ([x0, x1, x2] ++ zeros 21 : Str).map eByte) rfl (bytes_cell _) (bytes_refs _) (Nat.le_of_ble_eq_true rfl) ?_
  refine pw_norm rfl ?_
  (refine zGo ?_)
  (refine pl_op rfl (op_of (v_sliceP (m := 3) hT rfl rfl rfl rfl rfl (by decide) (by decide)) ?_); (refine zNp ?_))
  (refine zGo ?_)
  have h3 : (dec u).length = 3 := by rw [hdu]; rfl
  (refine pl_op rfl (op_appendB (b := 1) (xs := bs) (zs := [x0, x1, x2] ++ zeros 21) hT rfl rfl rfl rfl (Nat.le_refl _) rfl rfl (Nat.le_of_ble_eq_true rfl) (.inl (by decide)) (by omega) (fun cap' _ _ => ?_)); (refine zNp ?_))
  have e : bs.take bs.length ++ ((([x0, x1, x2] ++ zeros 21 : Str)).drop 0).take 3 = bs ++ dec u := by
   rw [List.take_length, hdu]; rfl
  rw [e]
  rw [show bs.length + 3 = bs.length + (dec u).length by rw [h3]]
  refine pl_pure hT rfl ?_
  refine pl_nil ?_
  change PW Tryz.prog Gl B _ _ _ _
  (refine pw_mv 0 2 hD rfl rfl rfl rfl rfl ?_; refine pw_norm rfl ?_)
  (refine zGo ?_)
  exact ⟨_, _, _, rfl, ⟨cap', rfl, rfl⟩, .inr (.inl rfl), ⟨.inr (.inl rfl), trivial⟩, rfl, rfl⟩
theorem c131 (hG : GT Gl) (bs : Str) (cap u : Nat) (hu : u < 1000) (hb : Small bs) : PCalls Tryz.prog Gl 111 [.msl 1 0 0 bs.length cap, .int .u64 u, .int .i64 10] [.arr 1 (bs.map eByte) cap] fun r s => ∃ cap', r = .msl 1 0 0 (bs.length + (dec u).length) cap' ∧ s = [.arr 1 ((bs ++ dec u).map eByte) cap'] := by
 refine PCalls.of hT Tryz.func111 rfl 1 (Nat.le_refl _) fun B hD => ?_
 refine pw_norm rfl ?_
 (refine zGo ?_)
 (refine pl_op rfl (op_callA [0] rfl rfl e152 (by decide) rfl rfl rfl zLe zLes (c153 hG bs cap u hu hb) (fun r s hq => ?_)); obtain ⟨cap', rfl, rfl⟩ := hq; refine ⟨rfl, rfl, ?_⟩; (refine zNp ?_))
 refine pl_pure hT rfl ?_
 refine pl_nil ?_
 change PW Tryz.prog Gl B _ _ _ _
 (refine pw_mv 0 1 hD rfl rfl rfl rfl rfl ?_; refine pw_norm rfl ?_)
 (refine pw_trim 1 hD rfl rfl ?_; refine pw_norm rfl ?_)
 (refine zGo ?_)
 exact ⟨_, _, _, rfl, ⟨cap', rfl, rfl⟩, .inr (.inl rfl), ⟨.inr (.inl rfl), trivial⟩, rfl, rfl⟩
def preA (a : Nat) : Nat → Str
 | 0 => []
 | k + 1 => (if k = 0 then [] else preA a k ++ [46]) ++ dec (oct a (24 - 8 * k))
theorem preA_four (a : Nat) : preA a 4 = addrS a := by simp [preA, addrS]
theorem preA_len (a : Nat) : ∀ k, k ≤ 4 → (preA a k).length ≤ 5 * k
 | 0, _ => Nat.le_refl _
 | k + 1, h => by
  have h1 := preA_len a k (by omega)
  have h2 : (dec (oct a (24 - 8 * k))).length ≤ 4 := dec_small (by have := oct_lt a (24 - 8 * k); omega)
  rw [preA, List.length_append]
  split
  ·simp only [List.length_nil]; omega
  ·rw [List.length_append, List.length_singleton]; omega
theorem and255 (x : Nat) (h : x < 4294967296) : (BitVec.ofInt 32 (x : Int) &&& BitVec.ofInt 32 255).toNat = x % 256 := by
 rw [BitVec.toNat_and, BitVec.toNat_ofInt, BitVec.toNat_ofInt]
 rw [show (((x : Int) % ((2 ^ 32 : Nat) : Int)).toNat) = x by omega]
 exact Nat.and_two_pow_sub_one_eq_mod x 8
theorem c112 (hG : GT Gl) (a : Nat) (ha : a < 4294967296) : PFun Tryz.prog Gl 63 [.int .u32 (a : Int)] fun r => r = .str (addrS a) := by
 refine PFun.of hT Tryz.func63 rfl fun B hD => ?_
 refine pw_norm rfl ?_
 (refine zGo ?_)
 refine pw_ghost 1 ?_
 refine pw_norm rfl ?_
 refine pw_for hD (fun x : Nat × Str × Nat => [(3, .msl 1 0 0 x.2.1.length x.2.2), (4, .int .i64 (24 - 8 * (x.1 : Int)))]) (fun x => [.arr 1 (x.2.1.map eByte) x.2.2]) (fun x => x.1 ≤ 4 ∧ x.2.1 = preA a x.1) (fun x => 4 - x.1) (0, [], 0) ⟨Nat.zero_le _, rfl⟩ 1 rfl (fun _ => rfl) zLes (fun _ => rfl) (fun _ => rfl) zLe ?_
 rintro ⟨k, bs, cap⟩ ⟨hk, hbs⟩
 dsimp only at hk hbs ⊢
 have hbl := preA_len a k hk
 (refine zGo ?_)
 refine pw_cond rfl (fun h => ?_) (fun h => ?_)
 ·have hk4 : k < 4 := by simp only [decide_eq_true_eq] at h; omega
  obtain ⟨sh, hsh⟩ : ∃ sh : Nat, sh = 24 - 8 * k := ⟨_, rfl⟩
  have hshi : 24 - 8 * (k : Int) = (sh : Int) := by omega
  have hoc := oct_lt a sh
  (refine zGo ?_)
  refine pw_joinX hD (fun x : Str × Nat => x.1 = (if k = 0 then [] else preA a k ++ [46])) (fun x => [(3, .msl 1 0 0 x.1.length x.2)]) (fun x => [.arr 1 (x.1.map eByte) x.2]) 1 rfl (fun _ => rfl) (fun _ => rfl) (fun _ => rfl) ?_ ?_
  ·refine pw_cond rfl (fun h2 => ?_) (fun h2 => ?_)
   ·have hk0 : ¬ k = 0 := by simp only [decide_eq_true_eq] at h2; omega
    (refine zGo ?_)
    (refine pl_append (b := 1) hT hD rfl rfl rfl rfl rfl (List.length_map ..).symm rfl rfl (.inl (Nat.zero_lt_succ _)) rfl rfl (by rw [List.length_map, hbs]; show (_ + 1) * 1 ≤ _; omega) (fun cap1 _ hcap => ?_); (refine zNp ?_))
    (refine zGo ?_)
    refine ⟨(bs ++ [46], cap1), by rw [if_neg hk0, hbs], ?_, ?_⟩
    ·simp only [List.length_append, List.length_map]
     (exact zLe)
    ·simp only [List.map_append]
     (exact zLes)
   ·have hk0 : k = 0 := by simp only [decide_eq_false_iff_not] at h2; omega
    subst hk0
    (refine zGo ?_)
    exact ⟨(bs, cap), by rw [hbs]; rfl, zLe, zLes⟩
  rintro ⟨bs2, cap2⟩ hb2
  dsimp only at hb2 ⊢
  have hb2l : bs2.length ≤ 21 := by
   rw [hb2]
   split
   ·simp
   ·rw [List.length_append, List.length_singleton]; omega
  rw [hshi]
  (refine zGo ?_)
  (refine pl_op rfl (op_of (v_conv (c := (sh : Int)) hT rfl rfl rfl rfl (IntWalk.u64_in _ (by omega))) ?_); (refine zNp ?_))
  (refine zGo ?_)
  (refine pl_op rfl (op_of (v_shr (c := ((a / 2 ^ sh : Nat) : Int)) rfl rfl rfl (by omega) (by rw [show min ((sh : Int)).toNat IntKind.u32.bits = sh by show min sh 32 = sh; omega]; exact fdiv_nat a sh)) ?_); (refine zNp ?_))
  (refine zGo ?_)
  have hlt : a / 2 ^ sh < 4294967296 := Nat.lt_of_le_of_lt (Nat.div_le_self _ _) ha
  (refine pl_op rfl (op_of (v_bits (c := (oct a sh : Int)) rfl rfl rfl rfl (by show IntKind.u32.wrap ((BitVec.ofInt 32 ((a / 2 ^ sh : Nat) : Int) &&& BitVec.ofInt 32 255).toNat : Int) = _; rw [and255 _ hlt]; exact IntWalk.u32_in _ (by unfold oct at hoc; omega))) ?_); (refine zNp ?_))
  (refine zGo ?_)
  (refine pl_op rfl (op_of (v_conv (c := (oct a sh : Int)) hT rfl rfl rfl rfl (IntWalk.u64_in _ (by omega))) ?_); (refine zNp ?_))
  (refine zGo ?_)
  (refine pl_op rfl (op_callA [0] rfl rfl e111 (by decide) rfl rfl rfl zLe zLes (c131 hG bs2 cap2 (oct a sh) (by omega) (by unfold Small; omega)) (fun r s hq => ?_)); obtain ⟨cap', rfl, rfl⟩ := hq; refine ⟨rfl, rfl, ?_⟩; (refine zNp ?_))
  refine pl_pure hT rfl ?_
  refine pl_nil ?_
  change PW Tryz.prog Gl B _ _ _ _
  (refine pw_mv 0 1 hD rfl rfl rfl rfl rfl ?_; refine pw_norm rfl ?_)
  (refine pw_trim 1 hD rfl rfl ?_; refine pw_norm rfl ?_)
  (refine zGo ?_)
  refine ⟨(k + 1, bs2 ++ dec (oct a sh), cap'), ⟨hk4, ?_⟩, by show 4 - (k + 1) < 4 - k; omega, ?_, zLes⟩
  ·rw [preA, hb2, hsh]
  ·rw [show ((sh : Int) - 8) = 24 - 8 * ((k + 1 : Nat) : Int) by omega]
   simp only [List.length_append]
   (exact zLe)
 ·have hk4 : k = 4 := by simp only [decide_eq_false_iff_not] at h; omega
  subst hk4
  rw [preA_four] at hbs
  subst hbs
  (refine zGo ?_)
  (refine pl_op rfl (v_bstrM (bs := addrS a) hT rfl rfl rfl rfl rfl rfl rfl ?_); (refine zNp ?_))
  (refine zGo ?_)
  exact ret1 _ rfl rfl rfl
theorem c79 (hG : GT Gl) (p : TPfx) (hp : PfxIn p) (hv : pvalid p = true) (hb : 0 ≤ p.bits ∧ p.bits ≤ 32) : PFun Tryz.prog Gl 108 [ePfx p] fun r => r = .str (pfxS p) := by
 refine PFun.of hT Tryz.func108 rfl fun B hD => ?_
 refine pw_norm rfl ?_
 have ha : ((p.addr.toNat : Nat) : Int) = p.addr := Int.toNat_of_nonneg hp.1
 have h112 : PFun Tryz.prog Gl 63 [.int .u32 p.addr] fun r => r = .str (addrS p.addr.toNat) := by
  have := c112 hG p.addr.toNat (by have := hp.2; omega)
  rw [ha] at this
  exact this
 have h78 : PFun Tryz.prog Gl 64 [.int .i64 p.bits] fun r => r = .str (dec p.bits.toNat) := by
  have := c78 hG p.bits.toNat (by omega)
  rw [Int.toNat_of_nonneg hb.1] at this
  exact this
 have hl := addrS_len p.addr.toNat
 have hl2 : (dec p.bits.toNat).length ≤ 4 := dec_small (by omega)
 (refine zGo ?_)
 (refine pl_op rfl (op_fun (c45 p) rfl rfl e148 zLe rfl (fun r hr => ?_)); subst hr; refine ⟨rfl, ?_⟩; (refine zNp ?_))
 rw [hv]
 (refine zGo ?_)
 refine zDr [[0,1,4,5],[2],[3],[6],[7,8]] ?_
 (refine zDgo ?_)
 (refine po_step rfl rfl (op_fun (h112) rfl rfl e63 zLe rfl (fun r hr => ?_)); subst hr; refine ⟨rfl, zLok, ?_⟩; refine zDn ?_)
 (refine zDgo ?_)
 (refine po_val rfl rfl (v_concat rfl rfl rfl (by simp; omega)) ?_; refine zDn ?_)
 (refine zDgo ?_)
 (refine po_step rfl rfl (op_fun (h78) rfl rfl e64 zLe rfl (fun r hr => ?_)); subst hr; refine ⟨rfl, zLok, ?_⟩; refine zDn ?_)
 (refine zDgo ?_)
 (refine po_val rfl rfl (v_concat rfl rfl rfl (by simp; omega)) ?_; refine zDn ?_)
 (refine zDgo ?_)
 (refine zGo ?_)
 exact ret1 _ rfl rfl rfl
end
section
open Go.RowKit
def bsOf (s : Str) : ByteArray := ⟨s.toArray⟩
theorem joinW_tail (ws : List Str) : ∀ k, joinW (k + 1) ws = Lib.joinTail [32] ws := by
 induction ws with
 | nil => intro k; rfl
 | cons w ws ih => intro k; rw [joinW, ih (k + 1)]; simp [Lib.joinTail]
theorem joinW_join : ∀ ws : List Str, Lib.join ws [32] = joinW 0 ws
 | [] => rfl
 | w :: ws => by rw [Lib.join_cons, joinW, joinW_tail ws 0]
theorem bldBelow {T e : TypeId} {B b : Nat} {bs : List Value} {W W' : World} (h : Lib.IsBuilderF T e B b bs W) (hb : Below W.heap.size W W') : Lib.IsBuilderF T e B b bs W' := by
 have hg : W.grownBy W' none := ⟨hb.os, hb.tape, hb.output, hb.size, fun k hk _ => hb.block k hk⟩
 have one : ∀ p, Lib.BuilderAtF T e B b p bs W → Lib.BuilderAtF T e B b p bs W' := by
  rintro p hp
  have hlt := hp.lt
  obtain ⟨hB, v, h1, hown, hne⟩ := hp
  exact ⟨hB, v, (hb.block b hlt).trans h1, hown.kept hg (by cases hv : v.ownBlock <;> simp), hne⟩
 exact h.elim (fun x => .inl (one _ x)) (fun x => .inr (one _ x))
theorem join_walk (bk o c : Nat) (l : List TLine) (sv : Nat → Nat × Nat × Nat) (w : World) (hN : l.length ≤ 1000)
  (h0 : ∀ (i : Nat) x, l[i]? = some x → w.cell? ⟨bk, o + i * 2, none⟩ = some (.int .i64 x.num))
  (h1 : ∀ (i : Nat) x, l[i]? = some x → w.cell? ⟨bk, o + i * 2 + 1, none⟩ = some (.slice (some ⟨(sv i).1, (sv i).2.1, none⟩) (x.words.map bsOf).length (sv i).2.2))
  (h2 : ∀ (i : Nat) x, l[i]? = some x → x.words.length ≤ (sv i).2.2 ∧ (sv i).1 < w.heap.size ∧ ∀ (j : Nat) y, (x.words.map bsOf)[j]? = some y → w.cell? ⟨(sv i).1, (sv i).2.1 + j, none⟩ = some (.string y))
  (h3 : ∀ x ∈ l, x.words.length ≤ 1000) (h4 : (textS l).length ≤ 1000000) (_hlc : l.length ≤ c) (hbk : bk < w.heap.size) :
  Calls Tryz.prog 66 #[.slice (some ⟨bk, o, none⟩) l.length c] w fun e w' => e = .returned (.string ⟨(textS l).toArray⟩) ∧ Below w.heap.size w w' := by
 have hb0 : Lib.IsBuilderF 164 5 w.heap.size w.heap.size (Lib.byteCells []) (w.alloc (.cells #[.pointer none, .slice none 0 0] 164)) := Lib.IsBuilderF.of (Lib.fresh_isBuilder 164 5 w)
 have b0 : Below w.heap.size w (w.alloc (.cells #[.pointer none, .slice none 0 0] 164)) := (Below.refl _ w).alloc (Nat.le_refl _) _
 go_enter Tryz.func66, Tryz.ntmps66
 go_wp2
 go_loopw [8] (fun v wr => ∃ i : Nat, i ≤ l.length ∧ v = .int .i64 i ∧ Lib.IsBuilderF 164 5 w.heap.size w.heap.size (Lib.byteCells (textS (l.take i))) wr ∧ Below w.heap.size w wr ∧ w.heap.size < wr.heap.size) (fun v _ => l.length - (intOf v).toNat)
 case atStart => exact ⟨0, Nat.zero_le _, rfl, hb0, b0, by simp⟩
 case round =>
  obtain ⟨i, hi, rfl, hb, hbl, hsz⟩ := hrel
  rcases Nat.lt_or_ge i l.length with hlt | hge
  ·obtain ⟨x, hx⟩ : ∃ x, l[i]? = some x := ⟨_, List.getElem?_eq_getElem hlt⟩
   obtain ⟨g1, g2, g3⟩ := h2 i x hx
   have f0 : wr.cell? ⟨bk, o + i * 2, none⟩ = some (.int .i64 x.num) := (hbl.cell hbk).trans (h0 i x hx)
   have f1 := (hbl.cell hbk).trans (h1 i x hx)
   generalize sv i = s at *
   obtain ⟨s1, s2, s3⟩ := s
   dsimp only at *
   have hxm := h3 x (List.mem_of_getElem? hx)
   have hd : textS l = textS (l.take i) ++ (joinW 0 x.words ++ [10]) ++ textS (l.drop (i + 1)) := by
    have e : l = l.take i ++ x :: l.drop (i + 1) := by
     rw [show x = l[i] from (List.getElem?_eq_some_iff.1 hx).2.symm, ← List.drop_eq_getElem_cons hlt, List.take_append_drop]
    conv => lhs; rw [e]
    simp [textS, lineS]
   have hd2 : textS (l.take (i + 1)) = textS (l.take i) ++ (joinW 0 x.words ++ [10]) := by
    rw [List.take_add_one, hx]
    simp [textS, lineS]
   have hln := congrArg List.length hd
   simp only [List.length_append, List.length_singleton] at hln
   have hj : ∀ W, Below w.heap.size w W → Calls Tryz.prog 114 #[.slice (some ⟨s1, s2, none⟩) x.words.length s3, .string ⟨#[32]⟩] W fun e w' => e = .returned (.string (bsOf (joinW 0 x.words))) ∧ Below W.heap.size W w' := by
    intro W hW
    have em : (x.words.map bsOf).map (·.data.toList) = x.words := by rw [List.map_map]; exact List.map_id _
    have := Tryz.strings_Join s1 s2 s3 (x.words.map bsOf) ⟨#[32]⟩ W (fun j y hy => (hW.cell g2).trans (g3 j y hy)) (by have := hW.size; omega) (by rw [List.length_map]; omega) (by rw [List.length_map]; exact g1) (by rw [em]; show (Lib.join x.words [32]).length ≤ _; rw [joinW_join]; omega)
    rw [em, List.length_map] at this
    refine this.mono ?_
    rintro e w' ⟨rfl, h⟩
    refine ⟨?_, h⟩
    show Ending.returned (.string ⟨(Lib.join x.words [32]).toArray⟩) = _
    rw [joinW_join]; rfl
   generalize joinW 0 x.words = js at *
   have hbA : Lib.IsBuilderF 164 5 w.heap.size w.heap.size (Lib.byteCells (textS (l.take i))) (wr.alloc (.cells #[.int .i64 x.num, .slice (some ⟨s1, s2, none⟩) x.words.length s3] 57)) := hb.alloc _
   have blA : Below w.heap.size w (wr.alloc (.cells #[.int .i64 x.num, .slice (some ⟨s1, s2, none⟩) x.words.length s3] 57)) := hbl.alloc hbl.size _
   go_wp2_with (go_at_call 114; refine (hj _ blA).mono ?_; rintro e W1 ⟨rfl, hb1⟩; refine Hid.out ?_)
   refine Lib.hid ?_
   have hbB := bldBelow hbA hb1
   have blB : Below w.heap.size w W1 := blA.trans (hb1.mono blA.size)
   have hjl : (bsOf js).size = js.length := by simp [bsOf, ByteArray.size]
   have htl : (Lib.byteCells (textS (l.take i))).length = (textS (l.take i)).length := Lib.byteCells_length _
   have hsl : (Lib.strCells (bsOf js)).length = js.length := by rw [Lib.strCells_length, hjl]
   go_wp2_with (go_at_call 113; refine (Tryz.Builder_WriteString_k w.heap.size w.heap.size _ (bsOf js) _ hbB (by omega) blB.size).mono ?_; rintro e W2 ⟨rfl, hbC, blC, _⟩; refine Hid.out ?_)
   refine Lib.hid ?_
   go_wp2_with (go_at_call 115; refine (Tryz.Builder_WriteByte_k w.heap.size w.heap.size _ 10 _ (.inr hbC) (by rw [List.length_append]; omega) (blB.trans blC).size).mono ?_; rintro e W3 ⟨rfl, hbD, blD, _⟩; refine Hid.out ?_)
   refine Lib.hid ?_
   have blE := (blB.trans blC).trans blD
   have hbE : Lib.IsBuilderF 164 5 w.heap.size w.heap.size (Lib.byteCells (textS (l.take (i + 1)))) W3 := by
    refine .inr ?_
    rw [hd2, Lib.byteCells_append, Lib.byteCells_append, ← List.append_assoc]
    exact hbD
   go_wp2
   refine ⟨⟨i + 1, hlt, by simp, hbE, blE, ?_⟩, by simp only [intOf]; omega⟩
   have z1 := hb1.size
   have z2 := blC.size
   have z3 := blD.size
   have z4 := blA.size
   have z5 : (wr.alloc (.cells #[.int .i64 x.num, .slice (some ⟨s1, s2, none⟩) x.words.length s3] 57)).heap.size = wr.heap.size + 1 := by simp
   have z6 := hbD.1
   have z7 := hbD.lt
   omega
  ·have hie : i = l.length := by omega
   subst hie
   rw [List.take_length] at hb
   go_wp2_with (go_at_call 116; refine (Tryz.Builder_String_any_k w.heap.size w.heap.size _ _ hb hbl.size).mono ?_; rintro e W5 ⟨rfl, _, b5, _⟩)
   go_ret
   exact ⟨rfl, hbl.trans b5⟩
theorem join_nil (base : Option Addr) (c : Nat) (w : World) : Calls Tryz.prog 66 #[.slice base 0 c] w fun e w' => e = .returned (.string ⟨#[]⟩) ∧ Below w.heap.size w w' := by
 have hb0 : Lib.IsBuilderF 164 5 w.heap.size w.heap.size (Lib.byteCells []) (w.alloc (.cells #[.pointer none, .slice none 0 0] 164)) := Lib.IsBuilderF.of (Lib.fresh_isBuilder 164 5 w)
 have b0 : Below w.heap.size w (w.alloc (.cells #[.pointer none, .slice none 0 0] 164)) := (Below.refl _ w).alloc (Nat.le_refl _) _
 go_enter Tryz.func66, Tryz.ntmps66
 go_wp2
 go_loopw [8] (fun v wr => v = .int .i64 0 ∧ Lib.IsBuilderF 164 5 w.heap.size w.heap.size (Lib.byteCells []) wr ∧ Below w.heap.size w wr) (fun _ _ => 0)
 case atStart => exact ⟨rfl, hb0, b0⟩
 case round =>
  obtain ⟨rfl, hb, hbl⟩ := hrel
  go_wp2_with (go_at_call 116; refine (Tryz.Builder_String_any_k w.heap.size w.heap.size _ _ hb hbl.size).mono ?_; rintro e W5 ⟨rfl, _, b5, _⟩)
  go_ret
  exact ⟨rfl, hbl.trans b5⟩
variable {Gl : Glob}
theorem den_words {A : Nat → Prop} {w : World} {ws : List Str} {v : Value} (h : Den A w [] (.sl (ws.map .str)) v) (hne : ws ≠ []) :
  ∃ b o cap, v = .slice (some ⟨b, o, none⟩) ws.length cap ∧ A b ∧ ws.length ≤ cap ∧ ∀ (j : Nat) y, ws[j]? = some y → w.cell? ⟨b, o + j, none⟩ = some (.string (bsOf y)) := by
 generalize hx : ws.map PV.str = xs at h
 have hxne : xs ≠ [] := by rintro rfl; exact hne (List.map_eq_nil_iff.1 hx)
 have key : ∀ p, Den A w [] p v → p = .sl xs → ∃ b o cap, v = .slice (some ⟨b, o, none⟩) ws.length cap ∧ A b ∧ ws.length ≤ cap ∧ ∀ (j : Nat) y, ws[j]? = some y → w.cell? ⟨b, o + j, none⟩ = some (.string (bsOf y)) := by
  intro p hp hpe
  cases hp <;> try (cases hpe; done)
  ·simp only [PV.sl.injEq] at hpe
   exact absurd hpe.symm hxne
  ·rename_i k xs' a cap f hA hlc hm hk hc hd
   simp only [PV.sl.injEq] at hpe
   subst hpe
   have hk1 : k = 1 := by
    obtain ⟨x, hx1⟩ := List.exists_mem_of_ne_nil _ hxne
    have := hk x hx1
    rw [← hx] at hx1
    obtain ⟨s, _, rfl⟩ := List.mem_map.1 hx1
    exact this.symm
   subst hk1
   obtain ⟨ha, hsp⟩ := hA hxne
   obtain ⟨ab, ao, asp⟩ := a
   dsimp only at ha hsp
   subst hsp
   refine ⟨ab, ao, cap, by rw [← hx, List.length_map], ha, by rw [← hx, List.length_map] at hlc; exact hlc, fun j y hj => ?_⟩
   have hxj : xs'[j]? = some (.str y) := by rw [← hx, List.getElem?_map, hj]; rfl
   have h1 := hc j _ 0 (.str y) hxj rfl
   have h2 := hd j _ 0 (.str y) hxj rfl
   rw [h2.lit rfl] at h1
   rw [show j * 1 + 0 = j by omega] at h1
   exact h1
 exact key _ h rfl
def svOf : Value → Nat × Nat × Nat
 | .slice (some a) _ c => (a.block, a.off, c)
 | _ => (0, 0, 0)
theorem c80 (l : List TLine) (hne : l ≠ []) (hl : l.length ≤ 1000) (hw : ∀ x ∈ l, x.words ≠ [] ∧ x.words.length ≤ 1000) (hb : (textS l).length ≤ 1000000) : PFun Tryz.prog Gl 66 [.sl (l.map eLine)] fun r => r = .str (textS l) := fun A w β vals hi har => by
 obtain ⟨v, rfl⟩ : ∃ v, vals = [v] := by
  have := har.1
  match vals, this with
  | [v], _ => exact ⟨v, rfl⟩
 have hv := har.2 0 _ _ rfl rfl
 have hxne : l.map eLine ≠ [] := fun e => hne (List.map_eq_nil_iff.1 e)
 have key : ∀ p, Den A w β p v → p = .sl (l.map eLine) → Calls Tryz.prog 66 #[v] w fun e w' => e = .returned (.string ⟨(textS l).toArray⟩) ∧ Below w.heap.size w w' := by
  intro p hp hpe
  cases hp <;> try (cases hpe; done)
  ·simp only [PV.sl.injEq] at hpe
   exact absurd hpe.symm hxne
  ·rename_i k xs' a cap f hA hlc hm hk hc hd
   simp only [PV.sl.injEq] at hpe
   subst hpe
   have hk2 : k = 2 := by
    obtain ⟨x, hx1⟩ := List.exists_mem_of_ne_nil _ hxne
    have := hk x hx1
    obtain ⟨s, _, rfl⟩ := List.mem_map.1 hx1
    exact this.symm
   subst hk2
   obtain ⟨ha, hsp⟩ := hA hxne
   obtain ⟨ab, ao, asp⟩ := a
   dsimp only at ha hsp hc
   subst hsp
   have hat : ∀ (i : Nat) x, l[i]? = some x → (l.map eLine)[i]? = some (eLine x) := fun i x hx => by rw [List.getElem?_map, hx]; rfl
   have hww : ∀ (i : Nat) x, l[i]? = some x → ∃ b o cap, f i 1 = .slice (some ⟨b, o, none⟩) x.words.length cap ∧ A b ∧ x.words.length ≤ cap ∧ ∀ (j : Nat) y, x.words[j]? = some y → w.cell? ⟨b, o + j, none⟩ = some (.string (bsOf y)) := fun i x hx =>
    den_words (hd i _ 1 (.sl (x.words.map .str)) (hat i x hx) rfl) (hw x (List.mem_of_getElem? hx)).1
   rw [List.length_map]
   refine join_walk ab ao cap l (fun i => svOf (f i 1)) w hl (fun i x hx => ?_) (fun i x hx => ?_) (fun i x hx => ?_) (fun x hx => (hw x hx).2) hb (by rw [List.length_map] at hlc; exact hlc) (hi.lt _ ha)
   ·have h1 := hc i _ 0 (.int .i64 x.num) (hat i x hx) rfl
    have h2 := hd i _ 0 (.int .i64 x.num) (hat i x hx) rfl
    rw [h2.lit rfl] at h1
    exact h1
   ·have h1 := hc i _ 1 (.sl (x.words.map .str)) (hat i x hx) rfl
    obtain ⟨b, o, c, e, _⟩ := hww i x hx
    rw [e] at h1 ⊢
    rw [List.length_map]
    exact h1
   ·obtain ⟨b, o, c, e, hAb, hle, hcell⟩ := hww i x hx
    rw [e]
    refine ⟨hle, hi.lt _ hAb, fun j y hy => ?_⟩
    rw [List.getElem?_map] at hy
    cases hj : x.words[j]? with
    | none => rw [hj] at hy; cases hy
    | some z =>
     rw [hj] at hy
     cases hy
     exact hcell j z hj
 refine (key _ hv rfl).mono ?_
 rintro e w' ⟨rfl, hbl⟩
 obtain ⟨h1, h2⟩ := hi.below hbl
 exact ⟨.str (textS l), _, [], A, β, rfl, ⟨rfl, rfl⟩, den_lit (.str (textS l)) rfl, h1⟩
theorem c80g (l : List TLine) (hl : l.length ≤ 1000) (hw : ∀ x ∈ l, x.words ≠ [] ∧ x.words.length ≤ 1000) (hb : (textS l).length ≤ 1000000) : PFun Tryz.prog Gl 66 [.sl (l.map eLine)] fun r => r = .str (textS l) := by
 by_cases hne : l = []
 ·subst hne
  intro A w β vals hi har
  obtain ⟨v, rfl⟩ : ∃ v, vals = [v] := by
   have := har.1
   match vals, this with
   | [v], _ => exact ⟨v, rfl⟩
  have hv := har.2 0 _ _ rfl rfl
  have hk : Calls Tryz.prog 66 #[v] w fun e w' => e = .returned (.string ⟨#[]⟩) ∧ Below w.heap.size w w' := by
   have key : ∀ p, Den A w β p v → p = .sl [] → ∃ base c, v = .slice base 0 c := by
    intro p hp hpe
    cases hp <;> try (cases hpe; done)
    ·exact ⟨_, _, rfl⟩
    ·rename_i k xs' a cap f hA hlc hm hk hc hd
     simp only [PV.sl.injEq] at hpe
     subst hpe
     exact ⟨_, _, rfl⟩
   obtain ⟨base, c, rfl⟩ := key _ hv rfl
   exact join_nil base c w
  refine hk.mono ?_
  rintro e w' ⟨rfl, hbl⟩
  obtain ⟨h1, h2⟩ := hi.below hbl
  exact ⟨.str (textS []), _, [], A, β, rfl, ⟨rfl, rfl⟩, den_lit (.str (textS [])) rfl, h1⟩
 ·exact c80 l hne hl hw hb
end
section
variable {Gl : Glob}
attribute [local irreducible] PW PWL OpP PCalls PWO PWT bothT
def stmP (s : TStm) : List PV := [.bool s.permit, .str s.src, .str s.dst, .str s.service, .bool s.excepted, .str s.exSrc, .str s.exDst, .str s.cls, .str s.during, .int .i64 s.prio]
attribute [local irreducible] iValid wFormat
theorem selD {α β : Type} [Inhabited α] (f : α → β) (l : List α) (i : Nat) (h : i < l.length) (out X : List β) (hw : out ++ (l.drop i).map f = X) : (out ++ [f (l.getD i default)]) ++ (l.drop (i + 1)).map f = X := by
 rw [← hw, List.drop_eq_getElem_cons h, List.map_cons, List.append_assoc, List.getD, List.getElem?_eq_getElem h]; rfl
theorem outLen {α β : Type} {f : α → β} {l : List α} {i : Nat} {out X : List β} (hw : out ++ (l.drop i).map f = X) : out.length ≤ X.length := by
 rw [← hw, List.length_append]; omega
theorem outEnd {α β : Type} {f : α → β} {l : List α} {i : Nat} {out X : List β} (hw : out ++ (l.drop i).map f = X) (h : l.length ≤ i) : out = X := by
 rw [← hw, List.drop_eq_nil_of_le h]; simp

end
end Go.Proofs.YtkaobkjcjodffaaGreatDoor