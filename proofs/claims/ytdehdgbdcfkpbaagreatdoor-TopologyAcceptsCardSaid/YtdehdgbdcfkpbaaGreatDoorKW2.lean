/-
  Decimal numbers as strconv writes them, and the texts of addresses and prefixes.
  The table of powers, out of a row's condition.
  Appended numbers, the texts of addresses and prefixes, as the program writes them.
  Prefixes as texts, as the program writes them.
-/
import Derived.Test.YtdehdgbdcfkpbaaGreatDoorKG1
import Derived.Test.YtdehdgbdcfkpbaaGreatDoorKShelf2
import Derived.Test.YtdehdgbdcfkpbaaGreatDoorKLib
import Derived.Test.YtdehdgbdcfkpbaaGreatDoorJPwApS
import Derived.Lib.AppendIntMem
import Derived.Test.YtdehdgbdcfkpbaaGreatDoorKR1
import Derived.Test.YtdehdgbdcfkpbaaGreatDoorJPwLawX
import Derived.Lib.LaidTab
import Derived.Test.YtdehdgbdcfkpbaaGreatDoorKA3
import Derived.Test.YtdehdgbdcfkpbaaGreatDoorKC1
namespace Go.Proofs.YtdehdgbdcfkpbaaGreatDoor
open Go Go.Pw Go.RowKit
variable {Gl : Glob}
attribute [local irreducible] PW PWL OpP PCalls PWO
set_option maxHeartbeats 20000000
set_option maxRecDepth 100000

/-- The table of powers reads as the program's text lays it. -/
def GT (Gl : Glob) : Prop := ∀ w, GlobW Gl w → Lib.TabIs Tryz.prog w "internal/strconv.uint64pow10" .u64 Lib.pow10Tab
theorem itoa_nat (n : Nat) : Lib.itoa (n : Int) = dec n := by
  unfold Lib.itoa
  rw [if_neg (by omega)]; rfl
theorem c78 (hG : GT Gl) (n : Nat) (hn : n < 10000) : PFun Tryz.prog Gl 78 [.int .i64 n] fun r => r = .str (dec n) := by
  refine PFun.lib rfl fun w hw => ?_
  refine (Tryz.strconv_Itoa n (by omega) (by omega) w (hG w hw)).mono ?_
  rintro e w' ⟨rfl, k, os, rfl⟩
  exact ⟨.str (dec n), by rw [itoa_nat]; rfl, rfl, rfl, Lib.below_grow _ _ (Nat.le_refl _) _ _⟩
theorem nDig3 {u : Nat} (h1 : 100 ≤ u) (h2 : u < 1000) : Lib.nDigits u = 3 := by
  rw [Lib.nDigits, dif_neg (by omega), Lib.nDigits, dif_neg (by omega), Lib.nDigits, dif_pos (by omega)]
theorem c150 (hG : GT Gl) (u : Nat) (h1 : 100 ≤ u) (h2 : u < 1000) : PFun Tryz.prog Gl 150 [.int .u64 u] fun r => r = .int .i64 3 := by
  refine PFun.lib rfl fun w hw => ?_
  refine (Tryz.internal_strconv_numDigits u (by omega) (by omega) w (hG w hw)).mono ?_
  rintro e w' ⟨rfl, rfl⟩
  exact ⟨.int .i64 3, by rw [nDig3 h1 h2]; rfl, rfl, rfl, Below.refl _ _⟩
def s36 : Str := [48, 49, 50, 51, 52, 53, 54, 55, 56, 57, 97, 98, 99, 100, 101, 102, 103, 104, 105, 106, 107, 108, 109, 110, 111, 112, 113, 114, 115, 116, 117, 118, 119, 120, 121, 122]
def s200 : Str := [48, 48, 48, 49, 48, 50, 48, 51, 48, 52, 48, 53, 48, 54, 48, 55, 48, 56, 48, 57, 49, 48, 49, 49, 49, 50, 49, 51, 49, 52, 49, 53, 49, 54, 49, 55, 49, 56, 49, 57, 50, 48, 50, 49, 50, 50, 50, 51, 50, 52, 50, 53, 50, 54, 50, 55, 50, 56, 50, 57, 51, 48, 51, 49, 51, 50, 51, 51, 51, 52, 51, 53, 51, 54, 51, 55, 51, 56, 51, 57, 52, 48, 52, 49, 52, 50, 52, 51, 52, 52, 52, 53, 52, 54, 52, 55, 52, 56, 52, 57, 53, 48, 53, 49, 53, 50, 53, 51, 53, 52, 53, 53, 53, 54, 53, 55, 53, 56, 53, 57, 54, 48, 54, 49, 54, 50, 54, 51, 54, 52, 54, 53, 54, 54, 54, 55, 54, 56, 54, 57, 55, 48, 55, 49, 55, 50, 55, 51, 55, 52, 55, 53, 55, 54, 55, 55, 55, 56, 55, 57, 56, 48, 56, 49, 56, 50, 56, 51, 56, 52, 56, 53, 56, 54, 56, 55, 56, 56, 56, 57, 57, 48, 57, 49, 57, 50, 57, 51, 57, 52, 57, 53, 57, 54, 57, 55, 57, 56, 57, 57]
theorem s36_at : ∀ i : Fin 10, (s36.take (i.val + 1)).drop i.val = [UInt8.ofNat (48 + i.val)] := by decide
theorem s200_sub : ∀ i : Fin 100, (s200.take (i.val * 2 + 2)).drop (i.val * 2) = [UInt8.ofNat (48 + i.val / 10), UInt8.ofNat (48 + i.val % 10)] := by decide +kernel
theorem s200_at0 : ∀ i : Fin 100, s200[2 * i.val]? = some (UInt8.ofNat (48 + i.val / 10)) := by decide +kernel
theorem s200_at1 : ∀ i : Fin 100, s200[2 * i.val + 1]? = some (UInt8.ofNat (48 + i.val % 10)) := by decide +kernel
theorem dec_two {i : Nat} (h1 : ¬ i < 10) (h2 : i < 100) : dec i = [UInt8.ofNat (48 + i / 10), UInt8.ofNat (48 + i % 10)] := by rw [dec_ge h1, dec_lt (by omega)]; rfl
theorem dec_three {i : Nat} (h1 : 100 ≤ i) (h2 : i < 1000) : dec i = [UInt8.ofNat (48 + i / 100), UInt8.ofNat (48 + i % 100 / 10), UInt8.ofNat (48 + i % 100 % 10)] := by
  rw [dec_ge (by omega), dec_two (by omega) (by omega)]
  rw [show i / 10 / 10 = i / 100 by omega, show i / 10 % 10 = i % 100 / 10 by omega, show i % 10 = i % 100 % 10 by omega]
  rfl
theorem c149 (i : Nat) (hi : i < 100) : PFun Tryz.prog Gl 149 [.int .i64 i] fun r => r = .str (dec i) := by
  refine PFun.of hT Tryz.func149 rfl fun B hD => ?_
  refine pw_norm rfl ?_
  (refine zGo ?_)
  refine pw_cond rfl (fun h => ?_) (fun h => ?_)
  · have h10 : i < 10 := by simp only [decide_eq_true_eq] at h; omega
    (refine zGo ?_)
    (refine pl_op rfl (op_of (v_substr (s := s36) (l := (i : Int)) (h := ((i + 1 : Nat) : Int)) hT rfl rfl rfl rfl rfl (by omega) (by omega) (by show ((i + 1 : Nat) : Int) ≤ 36; omega)) ?_); (refine zNp ?_))
    (refine zGo ?_)
    refine ret1 _ rfl ?_ rfl
    rw [dec_lt h10, ← s36_at ⟨i, h10⟩]; rfl
  · have h10 : ¬ i < 10 := by simp only [decide_eq_false_iff_not] at h; omega
    (refine zGo ?_)
    (refine pl_op rfl (op_of (v_substr (s := s200) (l := (i : Int) * 2) (h := (i : Int) * 2 + 2) hT rfl rfl rfl rfl rfl (by omega) (by omega) (by show (i : Int) * 2 + 2 ≤ 200; omega)) ?_); (refine zNp ?_))
    (refine zGo ?_)
    refine ret1 _ rfl ?_ rfl
    rw [dec_two h10 hi, ← s200_sub ⟨i, hi⟩]; rfl
def zeros (n : Nat) : Str := List.replicate n 0
theorem c151 (u : Nat) (h1 : 100 ≤ u) (h2 : u < 1000) : PCalls Tryz.prog Gl 151 [.msl 1 0 0 3 24, .int .u64 u] [.box ((zeros 24).map eByte)] fun r s => r = .tup [] ∧ ∃ x0 x1 x2 : UInt8, dec u = [x0, x1, x2] ∧ s = [.box (([x0, x1, x2] ++ zeros 21 : Str).map eByte)] := by
  refine PCalls.of hT Tryz.func151 rfl 1 (Nat.le_refl _) fun B hD => ?_
  refine pw_boxArr 0 (cs := (zeros 24).map eByte) rfl (bytes_cell _) (bytes_refs _) (by unfold maxLen; decide) ?_
  refine pw_norm rfl ?_
  rw [dec_three h1 h2]
  obtain ⟨q, hq⟩ : ∃ q, q = u % 100 := ⟨_, rfl⟩
  obtain ⟨d, hd⟩ : ∃ d, d = u / 100 := ⟨_, rfl⟩
  rw [← hq, ← hd]
  have hql : q < 100 := by omega
  have hdl : d < 10 := by omega
  obtain ⟨x0, e0⟩ : ∃ x, x = UInt8.ofNat (48 + q / 10) := ⟨_, rfl⟩
  obtain ⟨x1, e1⟩ : ∃ x, x = UInt8.ofNat (48 + q % 10) := ⟨_, rfl⟩
  have g0 : s200[2 * q]? = some x0 := by rw [e0]; exact s200_at0 ⟨q, hql⟩
  have g1 : s200[2 * q + 1]? = some x1 := by rw [e1]; exact s200_at1 ⟨q, hql⟩
  rw [← e0, ← e1]
  (refine zGo ?_)
  refine pw_for hD (fun _ : Unit => [(1, .int .u64 u), (4, .int .i64 3)]) (fun _ => [.arr 1 ((zeros 24).map eByte) 24]) (fun _ => True) (fun _ => 0) () trivial 1 rfl (fun _ => rfl) (by (exact zLes)) (fun _ => rfl) (fun _ => rfl) (by (exact zLe)) ?_
  intro _ _
  (refine zGo ?_)
  (refine pl_op rfl (op_of (v_conv (c := (u : Int)) hT rfl rfl rfl rfl (IntWalk.u32_in _ (by omega))) ?_); (refine zNp ?_))
  (refine zGo ?_)
  (refine pl_op rfl (op_of (v_rem (c := (q : Int)) rfl rfl rfl (by decide) (by rw [Int.tmod_eq_emod_of_nonneg (by omega)]; omega)) ?_); (refine zNp ?_))
  (refine pl_op rfl (op_of (v_arith (c := ((2 * q : Nat) : Int)) rfl rfl rfl rfl ((IntWalk.u32_in _ (by omega)).trans (by omega))) ?_); (refine zNp ?_))
  (refine zGo ?_)
  (refine pl_op rfl (op_of (v_quo (c := (d : Int)) rfl rfl rfl (by decide) (by rw [Int.tdiv_eq_ediv_of_nonneg (by omega), IntWalk.u32_in _ (by omega)]; omega)) ?_); (refine zNp ?_))
  (refine zGo ?_)
  refine pw_draw [(0, true), (1, true), (2, true), (3, true), (4, true), (5, true), (6, true), (7, true), (8, true), (9, true), (10, true), (11, true), (12, false), (13, true), (14, false)] hmix (by decide +kernel) ?_
  (refine zDgo ?_)
  (refine po_val rfl rfl (v_arith (c := ((2 * q + 1 : Nat) : Int)) rfl rfl rfl rfl ((IntWalk.u32_in _ (by omega)).trans (by omega))) ?_; refine zDn ?_)
  (refine zDgo ?_)
  (refine po_val rfl rfl (v_indexs (c := x1) hT rfl rfl rfl rfl (by omega) g1) ?_; refine zDn ?_)
  (refine zDgo ?_)
  (refine po_val rfl rfl (v_indexs (c := x0) hT rfl rfl rfl rfl (by omega) g0) ?_; refine zDn ?_)
  (refine zDgo ?_)
  (refine po_val rfl rfl (v_indexm hT rfl rfl rfl rfl rfl (by decide) (by decide) (by decide)) ?_; refine zDn ?_)
  (refine zDgo ?_)
  (refine po_step rfl rfl (op_storeE' (x0 := eByte 0) (x1 := eByte x1) (xs' := (([0, 0, x1] ++ zeros 21 : Str)).map eByte) hT rfl rfl rfl rfl rfl (by decide) (rfl) rfl rfl rfl rfl (Nat.le_of_ble_eq_true rfl) rfl (rfl) ⟨zLok, ?_⟩); refine zDn ?_)
  (refine zDgo ?_)
  (refine po_val rfl rfl (v_indexm hT rfl rfl rfl rfl rfl (by decide) (by decide) (by decide)) ?_; refine zDn ?_)
  (refine zDgo ?_)
  (refine po_step rfl rfl (op_storeE' (x0 := eByte 0) (x1 := eByte x0) (xs' := (([0, x0, x1] ++ zeros 21 : Str)).map eByte) hT rfl rfl rfl rfl rfl (by decide) (rfl) rfl rfl rfl rfl (Nat.le_of_ble_eq_true rfl) rfl (rfl) ⟨zLok, ?_⟩); refine zDn ?_)
  (refine zDgo ?_)
  (refine zGo ?_)
  (refine pl_op rfl (op_of (v_arith (c := ((48 + d : Nat) : Int)) rfl rfl rfl rfl ((IntWalk.u32_in _ (by omega)).trans (by omega))) ?_); (refine zNp ?_))
  (refine zGo ?_)
  (refine pl_op rfl (op_of (v_conv (c := ((UInt8.ofNat (48 + d)).toNat : Int)) hT rfl rfl rfl rfl (by rw [← dig_wrap d hdl]; congr 1)) ?_); (refine zNp ?_))
  (refine zGo ?_)
  (refine pl_op rfl (op_of (v_indexm hT rfl rfl rfl rfl rfl (by decide) (by decide) (by decide)) ?_); (refine zNp ?_))
  (refine zGo ?_)
  (refine pl_op rfl (op_storeE' (x0 := eByte 0) (x1 := eByte (UInt8.ofNat (48 + d))) (xs' := (([UInt8.ofNat (48 + d), x0, x1] ++ zeros 21 : Str)).map eByte) hT rfl rfl rfl rfl rfl (by decide) (rfl) rfl rfl rfl rfl (Nat.le_of_ble_eq_true rfl) rfl (rfl) ?_); (refine zNp ?_))
  refine pl_arrBox 0 (cs := ([UInt8.ofNat (48 + d), x0, x1] ++ zeros 21 : Str).map eByte) rfl rfl (by decide) (bytes_cell _) ?_
  (refine zNp ?_)
  (refine zGo ?_)
  exact ⟨_, _, _, rfl, ⟨rfl, _, _, _, rfl, rfl⟩, .inr (.inl rfl), ⟨.inr (.inl rfl), trivial⟩, rfl, rfl⟩
end Go.Proofs.YtdehdgbdcfkpbaaGreatDoor
namespace Go.Proofs.YtdehdgbdcfkpbaaGreatDoor
open Go Go.Pw Go.RowKit
theorem laid_tail {P : Program} {x : String × DataW Unit} {r : List (String × DataW Unit)} {w : World} (h : laidMet P (x :: r) w) : laidMet P r w := by
  obtain ⟨ps, hv, hnd, hrows⟩ := h
  obtain ⟨n, d⟩ := x
  obtain ⟨g, t, cs, fuel, p, q, _, _, _, _, hq, rfl⟩ := hv
  exact ⟨q, hq, List.Nodup.sublist (List.sublist_append_right _ _) hnd, fun b off hm => hrows b off (List.mem_append_right _ hm)⟩
theorem tab_at : Tryz.prog.globalNamed "internal/strconv.uint64pow10" = some 0 := by kernel_rfl
theorem tab_is {rest : List (String × DataW Unit)} {W : World} (h : laidMet Tryz.prog (("internal/strconv.uint64pow10", Rows.laid_internal_strconv_uint64pow10) :: rest) W) : Lib.TabIs Tryz.prog W "internal/strconv.uint64pow10" .u64 Lib.pow10Tab :=
  Lib.tabIs_of_head (k := .u64) (zs := Lib.pow10Tab) (t := 179) (e := 117) (n := 20) tab_at (by kernel_rfl) (by kernel_rfl) (by kernel_rfl) (by kernel_rfl) (by kernel_rfl) h
theorem gt_of {W : World} (h : Lib.TabIs Tryz.prog W "internal/strconv.uint64pow10" .u64 Lib.pow10Tab) : GT ⟨2, fun b => W.heap[b]?⟩ := by
  intro w hw
  have e : w.heap[0]? = W.heap[0]? := hw 0 (show 0 < 2 by decide)
  unfold Lib.TabIs World.var? at h ⊢
  rw [tab_at] at h ⊢
  simp only [Option.bind_some, e] at h ⊢
  exact h
end Go.Proofs.YtdehdgbdcfkpbaaGreatDoor
namespace Go.Proofs.YtdehdgbdcfkpbaaGreatDoor
open Go Go.Pw
variable {Gl : Glob}
attribute [local irreducible] PW PWL OpP PCalls PWO
set_option maxHeartbeats 20000000
set_option maxRecDepth 100000

theorem c153 (hG : GT Gl) (bs : Str) (cap u : Nat) (hu : u < 1000) (hb : Small bs) : PCalls Tryz.prog Gl 153 [.msl 1 0 0 bs.length cap, .int .u64 u, .int .i64 10] [.arr 1 (bs.map eByte) cap] fun r s => ∃ cap', r = .msl 1 0 0 (bs.length + (dec u).length) cap' ∧ s = [.arr 1 ((bs ++ dec u).map eByte) cap'] := by
  refine PCalls.of hT Tryz.func153 rfl 1 (Nat.le_refl _) fun B hD => ?_
  refine pw_norm rfl ?_
  unfold Small at hb
  have hdl := dec_small (n := u) (by omega)
  have hdp : 0 < (dec u).length := List.length_pos_iff.2 (by
    by_cases h : u < 10
    · rw [dec_lt h]; simp
    · rw [dec_ge h]; simp)
  (refine zGo ?_)
  refine pw_cond rfl (fun h => ?_) (fun h => ?_)
  · have hu1 : u < 100 := by simp only [decide_eq_true_eq] at h; omega
    (refine zGo ?_)
    (refine pl_op rfl (op_of (v_conv (c := (u : Int)) hT rfl rfl rfl rfl (IntWalk.i64_in _ (by omega))) ?_); (refine zNp ?_))
    (refine zGo ?_)
    (refine pl_op rfl (op_fun (c149 u hu1) rfl rfl e149 zLe rfl (fun r hr => ?_)); subst hr; refine ⟨rfl, ?_⟩; (refine zNp ?_))
    (refine zGo ?_)
    (refine pl_op rfl (op_appendS (b := 1) (xs := bs) hT rfl rfl rfl rfl rfl rfl rfl (.inl hdp) (by omega) (fun cap' _ _ => ?_)); (refine zNp ?_))
    refine pl_pure hT rfl ?_
    refine pl_nil ?_
    change PW Tryz.prog Gl B _ _ _ _
    (refine pw_mv 0 1 hD rfl rfl rfl rfl rfl ?_; refine pw_norm rfl ?_)
    (refine pw_trim 1 hD rfl rfl ?_; refine pw_norm rfl ?_)
    (refine zGo ?_)
    exact ⟨_, _, _, rfl, ⟨cap', rfl, rfl⟩, .inr (.inl rfl), ⟨.inr (.inl rfl), trivial⟩, rfl, rfl⟩
  · have hu1 : 100 ≤ u := by simp only [decide_eq_false_iff_not] at h; omega
    (refine zGo ?_)
    (refine pl_op rfl (op_fun (c150 hG u hu1 hu) rfl rfl e150 zLe rfl (fun r hr => ?_)); subst hr; refine ⟨rfl, ?_⟩; (refine zNp ?_))
    (refine zGo ?_)
    (refine pl_op rfl (op_of (v_sliceP (m := 3) hT rfl rfl rfl rfl rfl (by decide) (by decide)) ?_); (refine zNp ?_))
    (refine zGo ?_)
    (refine pl_op rfl (op_call [1] rfl rfl e151 (by decide) rfl rfl rfl zLe zLes (c151 u hu1 hu) (fun r s hq => ?_)); obtain ⟨rfl, x0, x1, x2, hdu, rfl⟩ := hq; refine ⟨rfl, rfl, ?_⟩; (refine zNp ?_))
    refine pl_nil ?_
    change PW Tryz.prog Gl B _ _ _ _
    refine pw_boxArr 1 (cs := ([x0, x1, x2] ++ zeros 21 : Str).map eByte) rfl (bytes_cell _) (bytes_refs _) (Nat.le_of_ble_eq_true rfl) ?_
    refine pw_norm rfl ?_
    (refine zGo ?_)
    (refine pl_op rfl (op_of (v_sliceP (m := 3) hT rfl rfl rfl rfl rfl (by decide) (by decide)) ?_); (refine zNp ?_))
    (refine zGo ?_)
    have h3 : (dec u).length = 3 := by rw [hdu]; rfl
    (refine pl_op rfl (op_appendB (b := 1) (xs := bs) (zs := [x0, x1, x2] ++ zeros 21) hT rfl rfl rfl rfl (Nat.le_refl _) rfl rfl (Nat.le_of_ble_eq_true rfl) (.inl (by decide)) (by omega) (fun cap' _ _ => ?_)); (refine zNp ?_))
    have e : bs.take bs.length ++ ((([x0, x1, x2] ++ zeros 21 : Str)).drop 0).take 3 = bs ++ dec u := by
      rw [List.take_length, hdu]; rfl
    rw [e]
    rw [show bs.length + 3 = bs.length + (dec u).length by rw [h3]]
    refine pl_pure hT rfl ?_
    refine pl_nil ?_
    change PW Tryz.prog Gl B _ _ _ _
    (refine pw_mv 0 2 hD rfl rfl rfl rfl rfl ?_; refine pw_norm rfl ?_)
    (refine zGo ?_)
    exact ⟨_, _, _, rfl, ⟨cap', rfl, rfl⟩, .inr (.inl rfl), ⟨.inr (.inl rfl), trivial⟩, rfl, rfl⟩
theorem c131 (hG : GT Gl) (bs : Str) (cap u : Nat) (hu : u < 1000) (hb : Small bs) : PCalls Tryz.prog Gl 131 [.msl 1 0 0 bs.length cap, .int .u64 u, .int .i64 10] [.arr 1 (bs.map eByte) cap] fun r s => ∃ cap', r = .msl 1 0 0 (bs.length + (dec u).length) cap' ∧ s = [.arr 1 ((bs ++ dec u).map eByte) cap'] := by
  refine PCalls.of hT Tryz.func131 rfl 1 (Nat.le_refl _) fun B hD => ?_
  refine pw_norm rfl ?_
  (refine zGo ?_)
  (refine pl_op rfl (op_callA [0] rfl rfl e153 (by decide) rfl rfl rfl zLe zLes (c153 hG bs cap u hu hb) (fun r s hq => ?_)); obtain ⟨cap', rfl, rfl⟩ := hq; refine ⟨rfl, rfl, ?_⟩; (refine zNp ?_))
  refine pl_pure hT rfl ?_
  refine pl_nil ?_
  change PW Tryz.prog Gl B _ _ _ _
  (refine pw_mv 0 1 hD rfl rfl rfl rfl rfl ?_; refine pw_norm rfl ?_)
  (refine pw_trim 1 hD rfl rfl ?_; refine pw_norm rfl ?_)
  (refine zGo ?_)
  exact ⟨_, _, _, rfl, ⟨cap', rfl, rfl⟩, .inr (.inl rfl), ⟨.inr (.inl rfl), trivial⟩, rfl, rfl⟩
def preA (a : Nat) : Nat → Str
  | 0 => []
  | k + 1 => (if k = 0 then [] else preA a k ++ [46]) ++ dec (oct a (24 - 8 * k))
theorem preA_four (a : Nat) : preA a 4 = addrS a := by simp [preA, addrS]
theorem preA_len (a : Nat) : ∀ k, k ≤ 4 → (preA a k).length ≤ 5 * k
  | 0, _ => Nat.le_refl _
  | k + 1, h => by
    have h1 := preA_len a k (by omega)
    have h2 : (dec (oct a (24 - 8 * k))).length ≤ 4 := dec_small (by have := oct_lt a (24 - 8 * k); omega)
    rw [preA, List.length_append]
    split
    · simp only [List.length_nil]; omega
    · rw [List.length_append, List.length_singleton]; omega
theorem and255 (x : Nat) (h : x < 4294967296) : (BitVec.ofInt 32 (x : Int) &&& BitVec.ofInt 32 255).toNat = x % 256 := by
  rw [BitVec.toNat_and, BitVec.toNat_ofInt, BitVec.toNat_ofInt]
  rw [show (((x : Int) % ((2 ^ 32 : Nat) : Int)).toNat) = x by omega]
  exact Nat.and_two_pow_sub_one_eq_mod x 8
theorem c112 (hG : GT Gl) (a : Nat) (ha : a < 4294967296) : PFun Tryz.prog Gl 112 [.int .u32 (a : Int)] fun r => r = .str (addrS a) := by
  refine PFun.of hT Tryz.func112 rfl fun B hD => ?_
  refine pw_norm rfl ?_
  (refine zGo ?_)
  refine pw_ghost 1 ?_
  refine pw_norm rfl ?_
  refine pw_for hD (fun x : Nat × Str × Nat => [(3, .msl 1 0 0 x.2.1.length x.2.2), (4, .int .i64 (24 - 8 * (x.1 : Int)))]) (fun x => [.arr 1 (x.2.1.map eByte) x.2.2]) (fun x => x.1 ≤ 4 ∧ x.2.1 = preA a x.1) (fun x => 4 - x.1) (0, [], 0) ⟨Nat.zero_le _, rfl⟩ 1 rfl (fun _ => rfl) (by (exact zLes)) (fun _ => rfl) (fun _ => rfl) (by (exact zLe)) ?_
  rintro ⟨k, bs, cap⟩ ⟨hk, hbs⟩
  dsimp only at hk hbs ⊢
  have hbl := preA_len a k hk
  (refine zGo ?_)
  refine pw_cond rfl (fun h => ?_) (fun h => ?_)
  · have hk4 : k < 4 := by simp only [decide_eq_true_eq] at h; omega
    obtain ⟨sh, hsh⟩ : ∃ sh : Nat, sh = 24 - 8 * k := ⟨_, rfl⟩
    have hshi : 24 - 8 * (k : Int) = (sh : Int) := by omega
    have hoc := oct_lt a sh
    (refine zGo ?_)
    refine pw_joinX hD (fun x : Str × Nat => x.1 = (if k = 0 then [] else preA a k ++ [46])) (fun x => [(3, .msl 1 0 0 x.1.length x.2)]) (fun x => [.arr 1 (x.1.map eByte) x.2]) 1 rfl (fun _ => rfl) (fun _ => rfl) (fun _ => rfl) ?_ ?_
    · refine pw_cond rfl (fun h2 => ?_) (fun h2 => ?_)
      · have hk0 : ¬ k = 0 := by simp only [decide_eq_true_eq] at h2; omega
        (refine zGo ?_)
        (refine pl_append (b := 1) hT hD rfl rfl rfl rfl rfl (List.length_map ..).symm rfl rfl (.inl (Nat.zero_lt_succ _)) rfl rfl (by rw [List.length_map, hbs]; show (_ + 1) * 1 ≤ _; omega) (fun cap1 _ hcap => ?_); (refine zNp ?_))
        (refine zGo ?_)
        refine ⟨(bs ++ [46], cap1), by rw [if_neg hk0, hbs], ?_, ?_⟩
        · simp only [List.length_append, List.length_map]
          (exact zLe)
        · simp only [List.map_append]
          (exact zLes)
      · have hk0 : k = 0 := by simp only [decide_eq_false_iff_not] at h2; omega
        subst hk0
        (refine zGo ?_)
        exact ⟨(bs, cap), by rw [hbs]; rfl, by (exact zLe), by (exact zLes)⟩
    rintro ⟨bs2, cap2⟩ hb2
    dsimp only at hb2 ⊢
    have hb2l : bs2.length ≤ 21 := by
      rw [hb2]
      split
      · simp
      · rw [List.length_append, List.length_singleton]; omega
    rw [hshi]
    (refine zGo ?_)
    (refine pl_op rfl (op_of (v_conv (c := (sh : Int)) hT rfl rfl rfl rfl (IntWalk.u64_in _ (by omega))) ?_); (refine zNp ?_))
    (refine zGo ?_)
    (refine pl_op rfl (op_of (v_shr (c := ((a / 2 ^ sh : Nat) : Int)) rfl rfl rfl (by omega) (by rw [show min ((sh : Int)).toNat IntKind.u32.bits = sh by show min sh 32 = sh; omega]; exact fdiv_nat a sh)) ?_); (refine zNp ?_))
    (refine zGo ?_)
    have hlt : a / 2 ^ sh < 4294967296 := Nat.lt_of_le_of_lt (Nat.div_le_self _ _) ha
    (refine pl_op rfl (op_of (v_bits (c := (oct a sh : Int)) rfl rfl rfl rfl (by show IntKind.u32.wrap ((BitVec.ofInt 32 ((a / 2 ^ sh : Nat) : Int) &&& BitVec.ofInt 32 255).toNat : Int) = _; rw [and255 _ hlt]; exact IntWalk.u32_in _ (by unfold oct at hoc; omega))) ?_); (refine zNp ?_))
    (refine zGo ?_)
    (refine pl_op rfl (op_of (v_conv (c := (oct a sh : Int)) hT rfl rfl rfl rfl (IntWalk.u64_in _ (by omega))) ?_); (refine zNp ?_))
    (refine zGo ?_)
    (refine pl_op rfl (op_callA [0] rfl rfl e131 (by decide) rfl rfl rfl zLe zLes (c131 hG bs2 cap2 (oct a sh) (by omega) (by unfold Small; omega)) (fun r s hq => ?_)); obtain ⟨cap', rfl, rfl⟩ := hq; refine ⟨rfl, rfl, ?_⟩; (refine zNp ?_))
    refine pl_pure hT rfl ?_
    refine pl_nil ?_
    change PW Tryz.prog Gl B _ _ _ _
    (refine pw_mv 0 1 hD rfl rfl rfl rfl rfl ?_; refine pw_norm rfl ?_)
    (refine pw_trim 1 hD rfl rfl ?_; refine pw_norm rfl ?_)
    (refine zGo ?_)
    refine ⟨(k + 1, bs2 ++ dec (oct a sh), cap'), ⟨hk4, ?_⟩, by show 4 - (k + 1) < 4 - k; omega, ?_, by (exact zLes)⟩
    · rw [preA, hb2, hsh]
    · rw [show ((sh : Int) - 8) = 24 - 8 * ((k + 1 : Nat) : Int) by omega]
      simp only [List.length_append]
      (exact zLe)
  · have hk4 : k = 4 := by simp only [decide_eq_false_iff_not] at h; omega
    subst hk4
    rw [preA_four] at hbs
    subst hbs
    (refine zGo ?_)
    (refine pl_op rfl (v_bstrM (bs := addrS a) hT rfl rfl rfl rfl rfl rfl rfl ?_); (refine zNp ?_))
    (refine zGo ?_)
    exact ret1 _ rfl rfl rfl
end Go.Proofs.YtdehdgbdcfkpbaaGreatDoor
namespace Go.Proofs.YtdehdgbdcfkpbaaGreatDoor
open Go Go.Pw
variable {Gl : Glob}
attribute [local irreducible] PW PWL OpP PCalls PWO
set_option maxHeartbeats 20000000
set_option maxRecDepth 100000

theorem c79 (hG : GT Gl) (p : TPfx) (hp : PfxIn p) (hv : pvalid p = true) (hb : 0 ≤ p.bits ∧ p.bits ≤ 32) : PFun Tryz.prog Gl 79 [ePfx p] fun r => r = .str (pfxS p) := by
  refine PFun.of hT Tryz.func79 rfl fun B hD => ?_
  refine pw_norm rfl ?_
  have ha : ((p.addr.toNat : Nat) : Int) = p.addr := Int.toNat_of_nonneg hp.1
  have h112 : PFun Tryz.prog Gl 112 [.int .u32 p.addr] fun r => r = .str (addrS p.addr.toNat) := by
    have := c112 hG p.addr.toNat (by have := hp.2; omega)
    rw [ha] at this
    exact this
  have h78 : PFun Tryz.prog Gl 78 [.int .i64 p.bits] fun r => r = .str (dec p.bits.toNat) := by
    have := c78 hG p.bits.toNat (by omega)
    rw [Int.toNat_of_nonneg hb.1] at this
    exact this
  have hl := addrS_len p.addr.toNat
  have hl2 : (dec p.bits.toNat).length ≤ 4 := dec_small (by omega)
  (refine zGo ?_)
  (refine pl_op rfl (op_fun (c45 p) rfl rfl e45 zLe rfl (fun r hr => ?_)); subst hr; refine ⟨rfl, ?_⟩; (refine zNp ?_))
  rw [hv]
  (refine zGo ?_)
  refine pw_draw [(0, true), (1, true), (4, true), (5, true), (2, false), (3, true), (6, false), (7, true), (8, true)] hmix (by decide +kernel) ?_
  (refine zDgo ?_)
  (refine po_step rfl rfl (op_fun (h112) rfl rfl e112 zLe rfl (fun r hr => ?_)); subst hr; refine ⟨rfl, zLok, ?_⟩; refine zDn ?_)
  (refine zDgo ?_)
  (refine po_val rfl rfl (v_concat rfl rfl rfl (by simp; omega)) ?_; refine zDn ?_)
  (refine zDgo ?_)
  (refine po_step rfl rfl (op_fun (h78) rfl rfl e78 zLe rfl (fun r hr => ?_)); subst hr; refine ⟨rfl, zLok, ?_⟩; refine zDn ?_)
  (refine zDgo ?_)
  (refine po_val rfl rfl (v_concat rfl rfl rfl (by simp; omega)) ?_; refine zDn ?_)
  (refine zDgo ?_)
  (refine zGo ?_)
  exact ret1 _ rfl rfl rfl
end Go.Proofs.YtdehdgbdcfkpbaaGreatDoor
