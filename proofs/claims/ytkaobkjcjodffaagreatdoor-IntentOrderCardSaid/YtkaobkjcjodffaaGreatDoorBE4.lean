/-
 Plain laws of prefixes: both ways of saying that one covers another agree.
 The reference's numbers, addresses, prefixes and lines as texts.
-/
import Derived.Test.YtkaobkjcjodffaaGreatDoorBP1
import Derived.Test.YtkaobkjcjodffaaGreatDoorBB6
import Derived.Test.YtkaobkjcjodffaaGreatDoorAPwLend
import Derived.Lib.ItoaNum
import Derived.Test.YtkaobkjcjodffaaGreatDoorAPwGlob
set_option maxHeartbeats 20000000
set_option maxRecDepth 100000
namespace Go.Proofs.YtkaobkjcjodffaaGreatDoor
open Go Go.Pw
section
variable {Gl : Glob}
attribute [local irreducible] PW PWL OpP PCalls PWO
theorem c134 (s : Str) (hl : Small s) : PFun Tryz.prog Gl 195 [.str s] fun r => r = .bool (digitsB s) := by
 refine PFun.of hT Tryz.func195 rfl fun B hD => ?_
 refine pw_norm rfl ?_
 rw [digitsB_eq]
 unfold Small at hl
 (refine zGo ?_)
 refine pw_for hD (fun i : Nat => [(3, .int .i64 i)]) (fun _ => []) (fun i => i ≤ s.length ∧ (s.drop i).any dbad = s.any dbad) (fun i => s.length - i) 0 ⟨Nat.zero_le _, rfl⟩ 0 rfl (fun _ => rfl) (StLe.refl _) (fun _ => rfl) (fun _ => rfl) zLe ?_
 rintro i ⟨hi, hw⟩
 (refine zGo ?_)
 refine pw_cond rfl (fun h1 => ?_) (fun h1 => ?_)
 ·simp only [decide_eq_true_eq] at h1
  have hlt : i < s.length := by omega
  have hg := get_getD hlt
  rw [drop_getD hlt, List.any_cons] at hw
  generalize s.getD i 0 = c at hg hw
  (refine zGo ?_)
  (refine pl_op rfl (op_of (v_indexs (c := c) hT rfl rfl rfl rfl (by omega) (hg)) ?_); (refine zNp ?_))
  (refine zGo ?_)
  (refine pl_or 5 14 19 (decide ((c.toNat : Int) > 57)) rfl rfl rfl (fun hb => ?_) (fun hb => ?_) ?_; (focus ((refine zNp ?_); (refine zGo ?_); exact ⟨zLe, StLe.refl _⟩)); (focus ((refine zNp ?_); (refine zGo ?_); (refine pl_on rfl rfl (op_of (v_indexs (c := c) hT rfl rfl rfl rfl (by omega) (hg)) ?_); (refine zNp ?_)); (refine zGo ?_); exact ⟨zLe, StLe.refl _⟩)); (refine zNp ?_); (refine zGo ?_))
  refine pw_cond rfl (fun h2 => ?_) (fun h2 => ?_)
  ·have h2' : dbad c = true := h2
   rw [h2', Bool.true_or] at hw
   (refine zGo ?_)
   refine ret1 _ rfl ?_ rfl
   simp [rdig, ← hw]
  ·have h2' : dbad c = false := h2
   rw [h2', Bool.false_or] at hw
   (refine zGo ?_)
   exact ⟨i + 1, ⟨hlt, hw⟩, by omega, zLe, StLe.refl _⟩
 ·simp only [decide_eq_false_iff_not] at h1
  have hie : i = s.length := by omega
  rw [hie, List.drop_length, List.any_nil] at hw
  (refine zGo ?_)
  refine pl_and 9 22 31 (((s.length : Int) == 1) || (((s.headD 0).toNat : Int) != 48)) rfl rfl rfl (fun h0 => ?_) (fun h0 => ?_) ?_
  ·refine pl_norm rfl ?_
   (refine zGo ?_)
   (refine pl_or 4 26 30 (((s.headD 0).toNat : Int) != 48) rfl rfl rfl (fun hb => ?_) (fun hb => ?_) ?_; (focus ((refine zNp ?_); (refine zGo ?_); exact ⟨zLe, StLe.refl _⟩)); (focus ((refine zNp ?_); (refine zGo ?_); have hne : ¬ s = [] := (by rintro rfl; simp at h0); (refine pl_on rfl rfl (op_of (v_indexs (c := s.headD 0) hT rfl rfl rfl rfl (by omega) (head_some (by assumption))) ?_); (refine zNp ?_)); (refine zGo ?_); exact ⟨zLe, StLe.refl _⟩)); (refine zNp ?_); (refine zGo ?_))
   exact ⟨zLe, StLe.refl _⟩
  ·refine pl_norm rfl ?_
   (refine zGo ?_)
   exact ⟨zLe, StLe.refl _⟩
  refine pl_norm rfl ?_
  (refine zGo ?_)
  refine ret1 _ rfl ?_ rfl
  unfold rdig
  rw [← hw]
  rfl
theorem quo_wrap (a : Int) (h1 : -9223372036854775808 ≤ a) (h2 : a ≤ 9223372036854775807) : IntKind.i64.wrap (a.tdiv 10) = a.tdiv 10 := by
 by_cases h : 0 ≤ a
 ·rw [tdiv10 h]; exact wrap_i64 (by omega) (by omega)
 ·have : a.tdiv 10 = -((-a) / 10) := by rw [← tdiv10 (by omega : 0 ≤ -a), Int.neg_tdiv, Int.neg_neg]
  rw [this]; exact wrap_i64 (by omega) (by omega)
theorem c136 (s : Str) (most : Int) (hl : Small s) (h0 : 0 ≤ most) (hm : most ≤ 9223372036854775807) : PFun Tryz.prog Gl 197 [.str s, .int .i64 most] fun r => r = .tup [.int .i64 (rread s most).1, .bool (rread s most).2] := by
 refine PFun.of hT Tryz.func197 rfl fun B hD => ?_
 refine pw_norm rfl ?_
 unfold Small at hl
 (refine zGo ?_)
 refine pl_or 9 10 19 (decide ((s.length : Int) > 1) && (((s.headD 0).toNat : Int) == 48)) rfl rfl rfl (fun hb0 => ?_) (fun hb0 => ?_) ?_
 ·refine pl_norm rfl ?_
  (refine zGo ?_)
  exact ⟨zLe, StLe.refl _⟩
 ·refine pl_norm rfl ?_
  (refine zGo ?_)
  (refine pl_and 4 14 18 (((s.headD 0).toNat : Int) == 48) rfl rfl rfl (fun hb => ?_) (fun hb => ?_) ?_; (focus ((refine zNp ?_); (refine zGo ?_); (refine pl_on rfl rfl (op_of (v_indexs (c := s.headD 0) hT rfl rfl rfl rfl (by omega) (head_some (by rintro rfl; simp at hb))) ?_); (refine zNp ?_)); (refine zGo ?_); exact ⟨zLe, StLe.refl _⟩)); (focus ((refine zNp ?_); (refine zGo ?_); exact ⟨zLe, StLe.refl _⟩)); (refine zNp ?_); (refine zGo ?_))
  exact ⟨zLe, StLe.refl _⟩
 refine pl_norm rfl ?_
 (refine zGo ?_)
 refine pw_cond rfl (fun h => ?_) (fun h => ?_)
 ·have h' : rhead s = true := h
  (refine zGo ?_)
  refine ret1 _ rfl ?_ rfl
  rw [rread, if_pos h']; rfl
 have h' : rhead s = false := h
 have hr : rread s most = readO (rrun most s 0) := by rw [rread, if_neg (by rw [h']; exact Bool.false_ne_true)]
 rw [hr]
 (refine zGo ?_)
 refine pw_for hD (fun a : Nat × Int => [(6, .int .i64 a.2), (7, .int .i64 a.1)]) (fun _ => []) (fun a => rrun most (s.drop a.1) a.2 = rrun most s 0 ∧ a.1 ≤ s.length ∧ 0 ≤ a.2 ∧ a.2 ≤ most) (fun a => s.length - a.1) (0, 0) ⟨rfl, Nat.zero_le _, Int.le_refl _, h0⟩ 0 rfl (fun _ => rfl) (StLe.refl _) (fun _ => rfl) (fun _ => rfl) zLe ?_
 rintro ⟨i, n⟩ ⟨hw, hi, hn0, hn⟩
 dsimp only at hw hi hn0 hn ⊢
 (refine zGo ?_)
 refine pw_cond rfl (fun h1 => ?_) (fun h1 => ?_)
 ·simp only [decide_eq_true_eq] at h1
  have hlt : i < s.length := by omega
  have hg := get_getD hlt
  rw [drop_getD hlt, rrun] at hw
  generalize s.getD i 0 = c at hg hw
  have hc256 := c.toNat_lt
  (refine zGo ?_)
  (refine pl_op rfl (op_of (v_indexs (c := c) hT rfl rfl rfl rfl (by omega) (hg)) ?_); (refine zNp ?_))
  (refine zGo ?_)
  (refine pl_or 5 30 35 (decide ((c.toNat : Int) > 57)) rfl rfl rfl (fun hb => ?_) (fun hb => ?_) ?_; (focus ((refine zNp ?_); (refine zGo ?_); exact ⟨zLe, StLe.refl _⟩)); (focus ((refine zNp ?_); (refine zGo ?_); (refine pl_on rfl rfl (op_of (v_indexs (c := c) hT rfl rfl rfl rfl (by omega) (hg)) ?_); (refine zNp ?_)); (refine zGo ?_); exact ⟨zLe, StLe.refl _⟩)); (refine zNp ?_); (refine zGo ?_))
  refine pl_or 11 36 47 (decide (n > (most - ((c.toNat : Int) - 48)).tdiv 10)) rfl rfl rfl (fun hb => ?_) (fun hb => ?_) ?_
  ·refine pl_norm rfl ?_
   (refine zGo ?_)
   exact ⟨zLe, StLe.refl _⟩
  ·refine pl_norm rfl ?_
   have hd := dbad_ok (c := c) hb
   (refine zGo ?_)
   (refine pl_on rfl rfl (op_of (v_indexs (c := c) hT rfl rfl rfl rfl (by omega) (hg)) ?_); (refine zNp ?_))
   (refine pl_on rfl rfl (op_of (v_arith rfl rfl rfl rfl (IntWalk.u8_in _ (by omega))) ?_); (refine zNp ?_))
   (refine pl_on rfl rfl (op_of (v_conv (c := (c.toNat : Int) - 48) hT rfl rfl rfl rfl (IntWalk.i64_in _ (by omega))) ?_); (refine zNp ?_))
   (refine zGo ?_)
   (refine pl_on rfl rfl (op_of (v_quo rfl rfl rfl (by decide) (quo_wrap _ (by omega) (by omega))) ?_); (refine zNp ?_))
   (refine zGo ?_)
   exact ⟨zLe, StLe.refl _⟩
  refine pl_norm rfl ?_
  (refine zGo ?_)
  refine pl_or 8 48 56 (decide (most < (c.toNat : Int) - 48)) rfl rfl rfl (fun hb => ?_) (fun hb => ?_) ?_
  ·refine pl_norm rfl ?_
   (refine zGo ?_)
   exact ⟨zLe, StLe.refl _⟩
  ·refine pl_norm rfl ?_
   have hd := dbad_ok (c := c) (Bool.or_eq_false_iff.1 hb).1
   (refine zGo ?_)
   (refine pl_on rfl rfl (op_of (v_indexs (c := c) hT rfl rfl rfl rfl (by omega) (hg)) ?_); (refine zNp ?_))
   (refine pl_on rfl rfl (op_of (v_arith rfl rfl rfl rfl (IntWalk.u8_in _ (by omega))) ?_); (refine zNp ?_))
   (refine pl_on rfl rfl (op_of (v_conv (c := (c.toNat : Int) - 48) hT rfl rfl rfl rfl (IntWalk.i64_in _ (by omega))) ?_); (refine zNp ?_))
   (refine zGo ?_)
   exact ⟨zLe, StLe.refl _⟩
  refine pl_norm rfl ?_
  (refine zGo ?_)
  refine pw_cond rfl (fun h2 => ?_) (fun h2 => ?_)
  ·have h2' : rbad most n c = true := h2
   rw [if_pos h2'] at hw
   (refine zGo ?_)
   refine ret1 _ rfl ?_ rfl
   rw [← hw]; rfl
  ·have h2' : rbad most n c = false := h2
   rw [if_neg (by rw [h2']; exact Bool.false_ne_true)] at hw
   have h3 := rbad_ok hn0 h2'
   have hd := dbad_ok h3.1
   (refine zGo ?_)
   (refine pl_op rfl (op_of (v_indexs (c := c) hT rfl rfl rfl rfl (by omega) (hg)) ?_); (refine zNp ?_))
   (refine pl_op rfl (op_of (v_arith rfl rfl rfl rfl (IntWalk.u8_in _ (by omega))) ?_); (refine zNp ?_))
   (refine pl_op rfl (op_of (v_conv (c := (c.toNat : Int) - 48) hT rfl rfl rfl rfl (IntWalk.i64_in _ (by omega))) ?_); (refine zNp ?_))
   (refine zGo ?_)
   exact ⟨(i + 1, 10 * n + ((c.toNat : Int) - 48)), ⟨hw, hlt, by show 0 ≤ 10 * n + ((c.toNat : Int) - 48); omega, h3.2⟩, by show _ - (i + 1) < _ - i; omega, zLe, StLe.refl _⟩
 ·simp only [decide_eq_false_iff_not] at h1
  have hie : i = s.length := by omega
  rw [hie, List.drop_length, rrun] at hw
  (refine zGo ?_)
  refine ret1 _ rfl ?_ rfl
  rw [← hw]; rfl
theorem c137 (s : Str) (least most : Int) (hl : Small s) (hm : most ≤ 9223372036854775807) : PFun Tryz.prog Gl 196 [.str s, .int .i64 least, .int .i64 most] fun r => r = .tup [.int .i64 (number s least most).1, .bool (number s least most).2] := by
 refine PFun.of hT Tryz.func196 rfl fun B hD => ?_
 refine pw_norm rfl ?_
 rw [number_eq s least most hm, ← digitsB_eq]
 (refine zGo ?_)
 (refine pl_op rfl (op_fun (c134 s hl) rfl rfl e195 zLe rfl (fun r hr => ?_)); subst hr; refine ⟨rfl, ?_⟩; (refine zNp ?_))
 (refine zGo ?_)
 (refine pl_or 3 13 16 (decide (most < 0)) rfl rfl rfl (fun hb => ?_) (fun hb => ?_) ?_; (focus ((refine zNp ?_); (refine zGo ?_); exact ⟨zLe, StLe.refl _⟩)); (focus ((refine zNp ?_); (refine zGo ?_); exact ⟨zLe, StLe.refl _⟩)); (refine zNp ?_); (refine zGo ?_))
 refine pw_cond rfl (fun h => ?_) (fun h => ?_)
 ·rw [if_pos h]
  (refine zGo ?_)
  exact ret1 _ rfl rfl rfl
 rw [if_neg (by rw [show (!digitsB s || decide (most < 0)) = false from h]; exact Bool.false_ne_true)]
 have hm0 : 0 ≤ most := by have := of_decide_eq_false (Bool.or_eq_false_iff.1 h).2; omega
 (refine zGo ?_)
 (refine pl_op rfl (op_fun (c136 s most hl hm0 hm) rfl rfl e197 zLe rfl (fun r hr => ?_)); subst hr; refine ⟨rfl, ?_⟩; (refine zNp ?_))
 (refine zGo ?_)
 (refine pl_or 4 25 29 (decide ((rread s most).1 < least)) rfl rfl rfl (fun hb => ?_) (fun hb => ?_) ?_; (focus ((refine zNp ?_); (refine zGo ?_); exact ⟨zLe, StLe.refl _⟩)); (focus ((refine zNp ?_); (refine zGo ?_); exact ⟨zLe, StLe.refl _⟩)); (refine zNp ?_); (refine zGo ?_))
 refine pw_cond rfl (fun h2 => ?_) (fun h2 => ?_)
 ·rw [if_pos h2]
  (refine zGo ?_)
  exact ret1 _ rfl rfl rfl
 rw [if_neg (by rw [show (!(rread s most).2 || decide ((rread s most).1 < least)) = false from h2]; exact Bool.false_ne_true)]
 (refine zGo ?_)
 exact ret1 _ rfl rfl rfl
abbrev Caps := Nat × Nat × Nat × Nat
structure WOk (w : List Str) : Prop where
 len : Small w
 each : ∀ x ∈ w, x.length < 4294967281
theorem WOk.at {w : List Str} (h : WOk w) (i : Nat) : (w.getD i []).length < 4294967281 := by
 rw [List.getD]
 cases hx : w[i]? with
 | none => simp
 | some x => exact h.each x (List.mem_of_getElem? hx)
theorem str_at (w : List Str) (i : Nat) (h : i < w.length) : (w.map PV.str)[i]? = some (.str (w.getD i [])) := by
 rw [List.getElem?_map, List.getD, List.getElem?_eq_getElem h]; rfl
structure TOk (t : Topo) : Prop where
 devs : Small t.devs
 links : Small t.links
 edges : Small t.edges
 pools : Small t.pools
def PfxIn (p : TPfx) : Prop := 0 ≤ p.addr ∧ p.addr < 4294967296
def someBits : List Int := [32, 31, 24, 25, 8, 1, 0, 16, 30, 23]
theorem subnets_in {p : TPfx} (h : p ∈ subnets) : PfxIn p := by
 have : ∀ p ∈ subnets, 0 ≤ p.addr ∧ p.addr < 4294967296 := by decide
 exact this p h
def mTopo (n : Nat) (t : Topo) (c : Caps) : List PV := [.msl 5 n 0 (t.devs.map eDev).length c.1, .msl 3 (n + 1) 0 (t.links.map eLink).length c.2.1, .msl 6 (n + 2) 0 (t.edges.map eEdge).length c.2.2.1, .msl 2 (n + 3) 0 (t.pools.map ePfx).length c.2.2.2, .int .i64 t.tol]
def aTopo (t : Topo) (c : Caps) : List PObj := [.arr 5 (t.devs.map eDev) c.1, .arr 3 (t.links.map eLink) c.2.1, .arr 6 (t.edges.map eEdge) c.2.2.1, .arr 2 (t.pools.map ePfx) c.2.2.2]
def rcov (p q : TPfx) : Bool := (rvalid q && rcont p (rof q).1) && rcont p (rof q).2
def rmeet (p q : TPfx) : Bool := rcov p q || rcov q p
def fixed (l : List TEdge) : List TPfx := (l.filter fun e => !e.planned).map TEdge.pfx
theorem pow_le4 {i : Nat} (h : i < 4) : (256 : Int) ^ (i + 1) ≤ 4294967296 := by
 match i, h with
 | 0, _ => decide
 | 1, _ => decide
 | 2, _ => decide
 | 3, _ => decide
theorem c135 (s : Str) (hl : Small s) : PFun Tryz.prog Gl 167 [.str s] fun r => r = .tup [.int .u32 (addr s).1, .bool (addr s).2] := by
 refine PFun.of hT Tryz.func167 rfl fun B hD => ?_
 refine pw_norm rfl ?_
 rw [addr_eq]
 have hl' := hl
 unfold Small at hl'
 (refine zGo ?_)
 (refine pl_op rfl (op_fun (c58 s 46 hl) rfl rfl e51 zLe rfl (fun r hr => ?_)); subst hr; refine ⟨rfl, ?_⟩; (refine zNp ?_))
 unfold raddr
 have hz := part_len' 46 s
 generalize parts 46 s = ps at hz
 (refine zGo ?_)
 refine pw_cond rfl (fun h => ?_) (fun h => ?_)
 ·have h' : ¬ ps.length = 4 := by simp at h; omega
  rw [if_neg h']
  (refine zGo ?_)
  exact ret1 _ rfl rfl rfl
 have h' : ps.length = 4 := by simp at h; omega
 rw [if_pos h']
 clear h
 (refine zGo ?_)
 refine pw_for hD (fun a : Nat × Int => [(5, .int .u32 a.2), (6, .int .i64 a.1)]) (fun _ => []) (fun a => sum4 (ps.drop a.1) a.2 = sum4 ps 0 ∧ a.1 ≤ 4 ∧ 0 ≤ a.2 ∧ a.2 < 256 ^ a.1) (fun a => 4 - a.1) (0, 0) ⟨rfl, by decide, by decide, by decide⟩ 0 rfl (fun _ => rfl) (StLe.refl _) (fun _ => rfl) (fun _ => rfl) zLe ?_
 rintro ⟨i, a⟩ ⟨hw, hi, ha0, ha⟩
 dsimp only at hw hi ha0 ha ⊢
 (refine zGo ?_)
 refine pw_cond rfl (fun h1 => ?_) (fun h1 => ?_)
 ·simp only [decide_eq_true_eq] at h1
  have hlt : i < ps.length := by omega
  have hp : (ps.map PV.str)[i]? = some (.str ps[i]) := by simp [hlt]
  have hzi := hz _ (List.getElem_mem hlt)
  rw [List.drop_eq_getElem_cons hlt, sum4] at hw
  generalize ps[i] = x at hp hzi hw
  obtain ⟨v, hv, ev⟩ := vOct_nat x
  have h4 := pow_le4 (i := i) (by omega)
  have h5 : (256 : Int) ^ (i + 1) = 256 ^ i * 256 := Int.pow_succ ..
  rw [h5] at h4
  (refine zGo ?_)
  (refine pl_op rfl (op_of (v_index (p := .str x) hT rfl rfl rfl rfl (by omega) (hp) rfl) ?_); (refine zNp ?_))
  (refine zGo ?_)
  (refine pl_op rfl (op_fun (c136 x 255 (by unfold Small; omega) (by decide) (by decide)) rfl rfl e197 zLe rfl (fun r hr => ?_)); subst hr; refine ⟨rfl, ?_⟩; (refine zNp ?_))
  (refine zGo ?_)
  refine pw_cond rfl (fun h2 => ?_) (fun h2 => ?_)
  ·have h2' : okOct x = false := by simpa [okOct] using h2
   rw [if_neg (by rw [h2']; exact Bool.false_ne_true)] at hw
   (refine zGo ?_)
   refine ret1 _ rfl ?_ rfl
   rw [← hw]; rfl
  ·have h2' : okOct x = true := by simpa [okOct] using h2
   rw [if_pos h2', ev] at hw
   have ev' : (rread x 255).1 = (v : Int) := ev
   rw [ev']
   (refine zGo ?_)
   (refine pl_op rfl (op_of (v_arith rfl rfl rfl rfl (IntWalk.u32_in _ (by omega))) ?_); (refine zNp ?_))
   (refine zGo ?_)
   (refine pl_op rfl (op_of (v_conv (c := (v : Int)) hT rfl rfl rfl rfl (IntWalk.u32_in _ (by omega))) ?_); (refine zNp ?_))
   (refine pl_op rfl (op_of (v_arith rfl rfl rfl rfl (IntWalk.u32_in _ (by omega))) ?_); (refine zNp ?_))
   (refine zGo ?_)
   exact ⟨(i + 1, a * 256 + v), ⟨hw, by show i + 1 ≤ 4; omega, by show 0 ≤ a * 256 + (v : Int); omega, by show a * 256 + (v : Int) < 256 ^ (i + 1); omega⟩, by show _ - (i + 1) < _ - i; omega, zLe, StLe.refl _⟩
 ·simp only [decide_eq_false_iff_not] at h1
  have hie : i = 4 := by omega
  rw [hie, List.drop_eq_nil_of_le (by omega), sum4] at hw
  (refine zGo ?_)
  refine ret1 _ rfl ?_ rfl
  rw [← hw]; rfl
theorem c120 (s : Str) (hl : Small s) : PFun Tryz.prog Gl 194 [.str s] fun r => r = .tup [ePfx (pfxParse s).1, .bool (pfxParse s).2] := by
 refine PFun.of hT Tryz.func194 rfl fun B hD => ?_
 refine pw_norm rfl ?_
 rw [pfx_eq]
 have hl' := hl
 unfold Small at hl'
 (refine zGo ?_)
 (refine pl_op rfl (op_fun (c58 s 47 hl) rfl rfl e51 zLe rfl (fun r hr => ?_)); subst hr; refine ⟨rfl, ?_⟩; (refine zNp ?_))
 unfold rpfx
 have hz := part_len' 47 s
 generalize parts 47 s = ps at hz
 (refine zGo ?_)
 refine pw_cond rfl (fun h => ?_) (fun h => ?_)
 ·have h' : ¬ ps.length = 2 := by simp at h; omega
  rw [if_neg h']
  (refine zGo ?_)
  exact ret1 _ rfl rfl rfl
 have h' : ps.length = 2 := by simp at h; omega
 rw [if_pos h']
 clear h
 obtain ⟨x, y, rfl⟩ : ∃ x y, ps = [x, y] := by
  match ps, h' with
  | [x, y], _ => exact ⟨x, y, rfl⟩
 have hx := hz x (by simp)
 have hy := hz y (by simp)
 rw [show ([x, y] : List Str).getD 0 [] = x from rfl, show ([x, y] : List Str).getD 1 [] = y from rfl]
 refine pw_norm rfl ?_
 (refine zGo ?_)
 (refine pl_op rfl (op_of (v_index (p := .str x) hT rfl rfl rfl rfl (by omega) (rfl) rfl) ?_); (refine zNp ?_))
 (refine zGo ?_)
 (refine pl_op rfl (op_fun (c135 x (by unfold Small; omega)) rfl rfl e167 zLe rfl (fun r hr => ?_)); subst hr; refine ⟨rfl, ?_⟩; (refine zNp ?_))
 (refine zGo ?_)
 (refine pl_op rfl (op_of (v_index (p := .str y) hT rfl rfl rfl rfl (by omega) (rfl) rfl) ?_); (refine zNp ?_))
 (refine zGo ?_)
 (refine pl_op rfl (op_fun (c136 y 32 (by unfold Small; omega) (by decide) (by decide)) rfl rfl e197 zLe rfl (fun r hr => ?_)); subst hr; refine ⟨rfl, ?_⟩; (refine zNp ?_))
 generalize addr x = A
 generalize rread y 32 = R
 (refine zGo ?_)
 (refine pl_or 3 31 34 (!R.2) rfl rfl rfl (fun hb => ?_) (fun hb => ?_) ?_; (focus ((refine zNp ?_); (refine zGo ?_); exact ⟨zLe, StLe.refl _⟩)); (focus ((refine zNp ?_); (refine zGo ?_); exact ⟨zLe, StLe.refl _⟩)); (refine zNp ?_); (refine zGo ?_))
 (refine pl_or 6 35 41 (!rvalid ⟨A.1, R.1⟩) rfl rfl rfl (fun hb => ?_) (fun hb => ?_) ?_; (focus ((refine zNp ?_); (refine zGo ?_); exact ⟨zLe, StLe.refl _⟩)); (focus ((refine zNp ?_); (refine zGo ?_); (refine pl_on rfl rfl (op_fun (c53 ⟨A.1, R.1⟩) rfl rfl e89 zLe rfl (fun r hr => ?_)); subst hr; refine ⟨rfl, ?_⟩; (refine zNp ?_)); (refine zGo ?_); exact ⟨zLe, StLe.refl _⟩)); (refine zNp ?_); (refine zGo ?_))
 refine pw_cond rfl (fun h => ?_) (fun h => ?_)
 ·rw [if_pos h]
  (refine zGo ?_)
  exact ret1 _ rfl rfl rfl
 rw [if_neg (by rw [show (!A.2 || !R.2 || !rvalid ⟨A.1, R.1⟩) = false from h]; exact Bool.false_ne_true)]
 (refine zGo ?_)
 exact ret1 _ rfl rfl rfl
def let1 (c : UInt8) : Bool := decide ((c.toNat : Int) ≥ 97) && decide ((c.toNat : Int) ≤ 122)
def dig1 (c : UInt8) : Bool := decide ((c.toNat : Int) ≥ 48) && decide ((c.toNat : Int) ≤ 57)
def oth1 (c : UInt8) : Bool := (dig1 c || ((c.toNat : Int) == 45)) || ((c.toNat : Int) == 95)
theorem vbyte_eq (c : UInt8) : vbyte c = (let1 c || oth1 c) := by
 unfold vbyte oth1
 show (!(((!(let1 c) && !(dig1 c)) && ((c.toNat : Int) != 45)) && ((c.toNat : Int) != 95))) = _
 generalize let1 c = a
 generalize dig1 c = b
 rw [bne, bne]
 generalize ((c.toNat : Int) == 45) = d
 generalize ((c.toNat : Int) == 95) = e
 cases a <;> cases b <;> cases d <;> cases e <;> rfl
def nmHead (s : Str) : Bool := ((s == []) || decide ((s.length : Int) > 24)) || (s == [97, 110, 121])
theorem vname_eq (s : Str) : vname s = (!(nmHead s) && (let1 (s.headD 0) && s.all vbyte)) := by
 unfold vname vhead
 show (!((nmHead s || decide (((s.headD 0).toNat : Int) < 97)) || decide (((s.headD 0).toNat : Int) > 122)) && _) = _
 have : (!decide (((s.headD 0).toNat : Int) < 97) && !decide (((s.headD 0).toNat : Int) > 122)) = let1 (s.headD 0) := by
  unfold let1
  rw [Bool.eq_iff_iff]
  simp only [Bool.and_eq_true, Bool.not_eq_true', decide_eq_false_iff_not, decide_eq_true_eq]
  omega
 rw [← this]
 generalize nmHead s = a
 generalize decide (((s.headD 0).toNat : Int) < 97) = b
 generalize decide (((s.headD 0).toNat : Int) > 122) = c
 cases a <;> cases b <;> cases c <;> simp
theorem c92 (s : Str) : PFun Tryz.prog Gl 75 [.str s] fun r => r = .bool (vname s) := by
 refine PFun.of hT Tryz.func75 rfl fun B hD => ?_
 refine pw_norm rfl ?_
 rw [vname_eq]
 (refine zGo ?_)
 (refine pl_or 4 8 12 (decide ((s.length : Int) > 24)) rfl rfl rfl (fun hb => ?_) (fun hb => ?_) ?_; (focus ((refine zNp ?_); (refine zGo ?_); exact ⟨zLe, StLe.refl _⟩)); (focus ((refine zNp ?_); (refine zGo ?_); exact ⟨zLe, StLe.refl _⟩)); (refine zNp ?_); (refine zGo ?_))
 (refine pl_or 3 13 16 (s == [97, 110, 121]) rfl rfl rfl (fun hb => ?_) (fun hb => ?_) ?_; (focus ((refine zNp ?_); (refine zGo ?_); exact ⟨zLe, StLe.refl _⟩)); (focus ((refine zNp ?_); (refine zGo ?_); exact ⟨zLe, StLe.refl _⟩)); (refine zNp ?_); (refine zGo ?_))
 refine pw_cond rfl (fun h => ?_) (fun h => ?_)
 ·have h' : nmHead s = true := h
  rw [h']
  (refine zGo ?_)
  exact ret1 _ rfl rfl rfl
 have h' : nmHead s = false := h
 have hh := h'
 simp only [nmHead, Bool.or_eq_false_iff, decide_eq_false_iff_not] at hh
 rw [h', Bool.not_false, Bool.true_and]
 (refine zGo ?_)
 refine pw_for hD (fun i : Nat => [(3, .int .i64 i)]) (fun _ => []) (fun i => i ≤ s.length ∧ (s.drop i).all vbyte = s.all vbyte ∧ (0 < i → let1 (s.headD 0) = true)) (fun i => s.length - i) 0 ⟨Nat.zero_le _, rfl, by intro h; omega⟩ 0 rfl (fun _ => rfl) (StLe.refl _) (fun _ => rfl) (fun _ => rfl) zLe ?_
 rintro i ⟨hi, hw, hd⟩
 (refine zGo ?_)
 refine pw_cond rfl (fun h1 => ?_) (fun h1 => ?_)
 ·simp only [decide_eq_true_eq] at h1
  have hlt : i < s.length := by omega
  have hg := get_getD hlt
  have h00 : i = 0 → s.getD i 0 = s.headD 0 := by rintro rfl; cases s <;> rfl
  rw [drop_getD hlt, List.all_cons] at hw
  generalize s.getD i 0 = c at hg hw h00
  (refine zGo ?_)
  (refine pl_op rfl (op_of (v_indexs (c := c) hT rfl rfl rfl rfl (by omega) (hg)) ?_); (refine zNp ?_))
  (refine zGo ?_)
  (refine pl_and 5 27 32 (decide ((c.toNat : Int) ≤ 122)) rfl rfl rfl (fun hb => ?_) (fun hb => ?_) ?_; (focus ((refine zNp ?_); (refine zGo ?_); (refine pl_on rfl rfl (op_of (v_indexs (c := c) hT rfl rfl rfl rfl (by omega) (hg)) ?_); (refine zNp ?_)); (refine zGo ?_); exact ⟨zLe, StLe.refl _⟩)); (focus ((refine zNp ?_); (refine zGo ?_); exact ⟨zLe, StLe.refl _⟩)); (refine zNp ?_); (refine zGo ?_))
  (refine pl_op rfl (op_of (v_indexs (c := c) hT rfl rfl rfl rfl (by omega) (hg)) ?_); (refine zNp ?_))
  (refine zGo ?_)
  (refine pl_and 5 37 42 (decide ((c.toNat : Int) ≤ 57)) rfl rfl rfl (fun hb => ?_) (fun hb => ?_) ?_; (focus ((refine zNp ?_); (refine zGo ?_); (refine pl_on rfl rfl (op_of (v_indexs (c := c) hT rfl rfl rfl rfl (by omega) (hg)) ?_); (refine zNp ?_)); (refine zGo ?_); exact ⟨zLe, StLe.refl _⟩)); (focus ((refine zNp ?_); (refine zGo ?_); exact ⟨zLe, StLe.refl _⟩)); (refine zNp ?_); (refine zGo ?_))
  (refine pl_or 5 43 48 ((c.toNat : Int) == 45) rfl rfl rfl (fun hb => ?_) (fun hb => ?_) ?_; (focus ((refine zNp ?_); (refine zGo ?_); exact ⟨zLe, StLe.refl _⟩)); (focus ((refine zNp ?_); (refine zGo ?_); (refine pl_on rfl rfl (op_of (v_indexs (c := c) hT rfl rfl rfl rfl (by omega) (hg)) ?_); (refine zNp ?_)); (refine zGo ?_); exact ⟨zLe, StLe.refl _⟩)); (refine zNp ?_); (refine zGo ?_))
  (refine pl_or 5 49 54 ((c.toNat : Int) == 95) rfl rfl rfl (fun hb => ?_) (fun hb => ?_) ?_; (focus ((refine zNp ?_); (refine zGo ?_); exact ⟨zLe, StLe.refl _⟩)); (focus ((refine zNp ?_); (refine zGo ?_); (refine pl_on rfl rfl (op_of (v_indexs (c := c) hT rfl rfl rfl rfl (by omega) (hg)) ?_); (refine zNp ?_)); (refine zGo ?_); exact ⟨zLe, StLe.refl _⟩)); (refine zNp ?_); (refine zGo ?_))
  refine pl_and 7 57 64 (!oth1 c || ((i : Int) == 0)) rfl rfl rfl (fun hb => ?_) (fun hb => ?_) ?_
  ·refine pl_norm rfl ?_
   (refine zGo ?_)
   (refine pl_or 3 60 63 ((i : Int) == 0) rfl rfl rfl (fun hb => ?_) (fun hb => ?_) ?_; (focus ((refine zNp ?_); (refine zGo ?_); exact ⟨zLe, StLe.refl _⟩)); (focus ((refine zNp ?_); (refine zGo ?_); exact ⟨zLe, StLe.refl _⟩)); (refine zNp ?_); (refine zGo ?_))
   exact ⟨zLe, StLe.refl _⟩
  ·refine pl_norm rfl ?_
   (refine zGo ?_)
   exact ⟨zLe, StLe.refl _⟩
  refine pl_norm rfl ?_
  (refine zGo ?_)
  refine pw_cond rfl (fun h2 => ?_) (fun h2 => ?_)
  ·have h2' : (!let1 c && (!oth1 c || ((i : Int) == 0))) = true := h2
   (refine zGo ?_)
   refine ret1 _ rfl ?_ rfl
   refine congrArg PV.bool ?_
   simp only [Bool.and_eq_true, Bool.not_eq_true', Bool.or_eq_true] at h2'
   rcases h2'.2 with h3 | h3
   ·rw [← hw, vbyte_eq, h2'.1, h3]; simp
   ·have hi0 : i = 0 := by simpa using h3
    rw [← h00 hi0, h2'.1]; rfl
  ·have h2' : (!let1 c && (!oth1 c || ((i : Int) == 0))) = false := h2
   (refine zGo ?_)
   refine ⟨i + 1, ⟨hlt, ?_, fun _ => ?_⟩, by omega, zLe, StLe.refl _⟩
   ·rw [← hw, vbyte_eq]
    cases h3 : let1 c with
    | true => rfl
    | false =>
     rw [h3] at h2'
     simp only [Bool.not_false, Bool.true_and, Bool.or_eq_false_iff, Bool.not_eq_false'] at h2'
     rw [h2'.1]; rfl
   ·by_cases hi0 : i = 0
    ·rw [← h00 hi0]
     cases h3 : let1 c with
     | true => rfl
     | false => rw [h3, hi0] at h2'; simp at h2'
    ·exact hd (by omega)
 ·simp only [decide_eq_false_iff_not] at h1
  have hie : i = s.length := by omega
  have hpos : 0 < s.length := by
   cases s with
   | nil => exact absurd hh.1.1 (by decide)
   | cons _ _ => simp
  rw [hie, List.drop_length, List.all_nil] at hw
  (refine zGo ?_)
  refine ret1 _ rfl ?_ rfl
  rw [← hw, hd (by omega)]; rfl
abbrev dec (n : Nat) : Str := Lib.decDigits n
theorem dec_lt {n : Nat} (h : n < 10) : dec n = [UInt8.ofNat (48 + n)] := Lib.decDigits_one h
theorem dec_ge {n : Nat} (h : ¬ n < 10) : dec n = dec (n / 10) ++ [UInt8.ofNat (48 + n % 10)] := by rw [dec, Lib.decDigits, dif_neg h]
theorem dec_len : ∀ (k n : Nat), n < 10 ^ (k + 1) → (dec n).length ≤ k + 1
 | 0, n, h => by rw [dec_lt (by omega)]; simp
 | k + 1, n, h => by
  by_cases h1 : n < 10
  ·rw [dec_lt h1]; simp
  ·rw [dec_ge h1, List.length_append, List.length_singleton]
   have h2 : (10 : Nat) ^ (k + 1 + 1) = 10 ^ (k + 1) * 10 := Nat.pow_succ ..
   have := dec_len k (n / 10) (by omega)
   omega
theorem dig_nat (d : Nat) (h : d < 10) : (48 + (d : Int)) = ((UInt8.ofNat (48 + d)).toNat : Int) := by
 rw [UInt8.toNat_ofNat', Nat.mod_eq_of_lt (by omega)]; omega
theorem dig_wrap (d : Nat) (h : d < 10) : IntKind.u8.wrap (48 + (d : Int)) = ((UInt8.ofNat (48 + d)).toNat : Int) := by
 rw [IntWalk.u8_in _ (by omega), dig_nat d h]
theorem c35 : ∀ (k n : Nat), k ≤ 17 → n < 10 ^ (k + 1) → PFun Tryz.prog Gl 35 [.int .i64 n] fun r => r = .str (dec n) := by
 intro k
 induction k with
 | zero =>
  intro n _ hn
  have h10 : n < 10 := by omega
  refine PFun.of hT Tryz.func35 rfl fun B hD => ?_
  refine pw_norm rfl ?_
  rw [dec_lt h10]
  (refine zGo ?_)
  refine pw_cond rfl (fun h => ?_) (fun h => ?_)
  ·(refine zGo ?_)
   (refine pl_op rfl (op_of (v_conv (c := ((UInt8.ofNat (48 + n)).toNat : Int)) hT rfl rfl rfl rfl (dig_wrap n h10)) ?_); (refine zNp ?_))
   (refine zGo ?_)
   (refine pl_op rfl (op_of (v_bstr (bs := [UInt8.ofNat (48 + n)]) hT rfl rfl rfl rfl rfl) ?_); (refine zNp ?_))
   (refine zGo ?_)
   exact ret1 _ rfl rfl rfl
  ·simp only [decide_eq_false_iff_not] at h; omega
 | succ k ih =>
  intro n hk hn
  have hp : (10 : Nat) ^ (k + 1 + 1) = 10 ^ (k + 1) * 10 := Nat.pow_succ ..
  have hp2 : (10 : Nat) ^ (k + 1 + 1) ≤ 10 ^ 18 := Nat.pow_le_pow_right (by omega) (by omega)
  refine PFun.of hT Tryz.func35 rfl fun B hD => ?_
  refine pw_norm rfl ?_
  (refine zGo ?_)
  refine pw_cond rfl (fun h => ?_) (fun h => ?_)
  ·have h10 : n < 10 := by simp only [decide_eq_true_eq] at h; omega
   rw [dec_lt h10]
   (refine zGo ?_)
   (refine pl_op rfl (op_of (v_conv (c := ((UInt8.ofNat (48 + n)).toNat : Int)) hT rfl rfl rfl rfl (dig_wrap n h10)) ?_); (refine zNp ?_))
   (refine zGo ?_)
   (refine pl_op rfl (op_of (v_bstr (bs := [UInt8.ofNat (48 + n)]) hT rfl rfl rfl rfl rfl) ?_); (refine zNp ?_))
   (refine zGo ?_)
   exact ret1 _ rfl rfl rfl
  ·have h10 : ¬ n < 10 := by simp only [decide_eq_false_iff_not] at h; omega
   rw [dec_ge h10]
   have hl := dec_len k (n / 10) (by omega)
   obtain ⟨q, hq⟩ : ∃ q, q = n % 10 := ⟨_, rfl⟩
   rw [← hq]
   (refine zGo ?_)
   refine zDr [[0,1,3,4,5,6,7,8],[2],[9,10]] ?_
   (refine zDgo ?_)
   (refine po_val rfl rfl (v_quo (c := ((n / 10 : Nat) : Int)) rfl rfl rfl (by decide) (by rw [Int.tdiv_eq_ediv_of_nonneg (by omega), IntWalk.i64_in _ (by omega)]; omega)) ?_; refine zDn ?_)
   (refine zDgo ?_)
   (refine po_val rfl rfl (v_rem (c := (q : Int)) rfl rfl rfl (by decide) (by rw [Int.tmod_eq_emod_of_nonneg (by omega)]; omega)) ?_; refine zDn ?_)
   (refine zDgo ?_)
   (refine po_val rfl rfl (v_conv (c := ((UInt8.ofNat (48 + q)).toNat : Int)) hT rfl rfl rfl rfl (dig_wrap q (by omega))) ?_; refine zDn ?_)
   (refine zDgo ?_)
   (refine po_make rfl rfl (fun st' K hK => op_litF hT rfl rfl rfl rfl rfl (by decide) rfl rfl rfl rfl hK) ?_; refine zDn ?_)
   (refine po_val rfl rfl (v_bstr (bs := [UInt8.ofNat (48 + q)]) hT rfl rfl rfl rfl rfl) ?_; refine zDn ?_)
   (refine zDgo ?_)
   (refine po_step rfl rfl (op_fun (ih (n / 10) (by omega) (by omega)) rfl rfl e35 zLe rfl (fun r hr => ?_)); subst hr; refine ⟨rfl, zLok, ?_⟩; refine zDn ?_)
   (refine zDgo ?_)
   (refine po_val rfl rfl (v_concat rfl rfl rfl (by simp; omega)) ?_; refine zDn ?_)
   (refine zDgo ?_)
   (refine zGo ?_)
   exact ret1 _ rfl rfl rfl
theorem c35s (n : Int) (h0 : 0 ≤ n) (h1 : n < 10000) : PFun Tryz.prog Gl 35 [.int .i64 n] fun r => r = .str (dec n.toNat) := by
 have := c35 (Gl := Gl) 3 n.toNat (by omega) (by omega)
 rw [Int.toNat_of_nonneg h0] at this
 exact this
theorem dec_small {n : Nat} (h : n < 10000) : (dec n).length ≤ 4 := dec_len 3 n (by omega)
def oct (a : Nat) (k : Nat) : Nat := a / 2 ^ k % 256
def addrS (a : Nat) : Str := dec (oct a 24) ++ [46] ++ dec (oct a 16) ++ [46] ++ dec (oct a 8) ++ [46] ++ dec (oct a 0)
theorem oct_lt (a k : Nat) : oct a k < 256 := Nat.mod_lt _ (by omega)
theorem fdiv_nat (a k : Nat) : (a : Int).fdiv (2 ^ k) = ((a / 2 ^ k : Nat) : Int) := by
 rw [Int.fdiv_eq_ediv_of_nonneg _ (by have := Nat.two_pow_pos k; exact_mod_cast Nat.zero_le _)]
 norm_cast
theorem u8c (n : Nat) (h : n < 256) : PFun Tryz.prog Gl 35 [.int .i64 (n : Int)] fun r => r = .str (dec n) := c35 2 n (by omega) (by omega)
theorem c81 (a : Nat) (ha : a < 4294967296) : PFun Tryz.prog Gl 34 [.int .u32 (a : Int)] fun r => r = .str (addrS a) := by
 refine PFun.of hT Tryz.func34 rfl fun B hD => ?_
 refine pw_norm rfl ?_
 have l0 : (dec (oct a 0)).length ≤ 4 := dec_small (by have := oct_lt a 0; omega)
 have l1 : (dec (oct a 8)).length ≤ 4 := dec_small (by have := oct_lt a 8; omega)
 have l2 : (dec (oct a 16)).length ≤ 4 := dec_small (by have := oct_lt a 16; omega)
 have l3 : (dec (oct a 24)).length ≤ 4 := dec_small (by have := oct_lt a 24; omega)
 have e24 : ((a / 2 ^ 24 : Nat) : Int) = (oct a 24 : Int) := by unfold oct; omega
 have r16 : ((a / 2 ^ 16 : Nat) : Int).tmod 256 = (oct a 16 : Int) := by rw [Int.tmod_eq_emod_of_nonneg (by omega)]; unfold oct; omega
 have r8 : ((a / 2 ^ 8 : Nat) : Int).tmod 256 = (oct a 8 : Int) := by rw [Int.tmod_eq_emod_of_nonneg (by omega)]; unfold oct; omega
 have r0 : (a : Int).tmod 256 = (oct a 0 : Int) := by rw [Int.tmod_eq_emod_of_nonneg (by omega)]; unfold oct; omega
 have hw : ∀ k, IntKind.i64.wrap (oct a k : Int) = (oct a k : Int) := fun k => by have := oct_lt a k; rw [IntWalk.i64_in _ (by omega)]
 (refine zGo ?_)
 (refine pl_op rfl (op_of (v_shr (c := (oct a 24 : Int)) rfl rfl rfl (by decide) (by rw [← e24]; exact fdiv_nat a 24)) ?_); (refine zNp ?_))
 (refine zGo ?_)
 (refine pl_op rfl (op_of (v_conv (c := (oct a 24 : Int)) hT rfl rfl rfl rfl (hw 24)) ?_); (refine zNp ?_))
 (refine zGo ?_)
 (refine pl_op rfl (op_fun (u8c (oct a 24) (oct_lt a 24)) rfl rfl e35 zLe rfl (fun r hr => ?_)); subst hr; refine ⟨rfl, ?_⟩; (refine zNp ?_))
 (refine zGo ?_)
 (refine pl_op rfl (op_of (v_concat rfl rfl rfl (by simp; omega)) ?_); (refine zNp ?_))
 (refine zGo ?_)
 (refine pl_op rfl (op_of (v_shr (c := ((a / 2 ^ 16 : Nat) : Int)) rfl rfl rfl (by decide) (fdiv_nat a 16)) ?_); (refine zNp ?_))
 (refine zGo ?_)
 (refine pl_op rfl (op_of (v_rem (c := (oct a 16 : Int)) rfl rfl rfl (by decide) r16) ?_); (refine zNp ?_))
 (refine zGo ?_)
 (refine pl_op rfl (op_of (v_conv (c := (oct a 16 : Int)) hT rfl rfl rfl rfl (hw 16)) ?_); (refine zNp ?_))
 (refine zGo ?_)
 (refine pl_op rfl (op_fun (u8c (oct a 16) (oct_lt a 16)) rfl rfl e35 zLe rfl (fun r hr => ?_)); subst hr; refine ⟨rfl, ?_⟩; (refine zNp ?_))
 (refine zGo ?_)
 (refine pl_op rfl (op_of (v_concat rfl rfl rfl (by simp; omega)) ?_); (refine zNp ?_))
 (refine zGo ?_)
 (refine pl_op rfl (op_of (v_concat rfl rfl rfl (by simp; omega)) ?_); (refine zNp ?_))
 (refine zGo ?_)
 (refine pl_op rfl (op_of (v_shr (c := ((a / 2 ^ 8 : Nat) : Int)) rfl rfl rfl (by decide) (fdiv_nat a 8)) ?_); (refine zNp ?_))
 (refine zGo ?_)
 (refine pl_op rfl (op_of (v_rem (c := (oct a 8 : Int)) rfl rfl rfl (by decide) r8) ?_); (refine zNp ?_))
 (refine zGo ?_)
 (refine pl_op rfl (op_of (v_conv (c := (oct a 8 : Int)) hT rfl rfl rfl rfl (hw 8)) ?_); (refine zNp ?_))
 (refine zGo ?_)
 (refine pl_op rfl (op_fun (u8c (oct a 8) (oct_lt a 8)) rfl rfl e35 zLe rfl (fun r hr => ?_)); subst hr; refine ⟨rfl, ?_⟩; (refine zNp ?_))
 (refine zGo ?_)
 (refine pl_op rfl (op_of (v_concat rfl rfl rfl (by simp; omega)) ?_); (refine zNp ?_))
 (refine zGo ?_)
 (refine pl_op rfl (op_of (v_concat rfl rfl rfl (by simp; omega)) ?_); (refine zNp ?_))
 (refine zGo ?_)
 (refine pl_op rfl (op_of (v_rem (c := (oct a 0 : Int)) rfl rfl rfl (by decide) r0) ?_); (refine zNp ?_))
 (refine zGo ?_)
 (refine pl_op rfl (op_of (v_conv (c := (oct a 0 : Int)) hT rfl rfl rfl rfl (hw 0)) ?_); (refine zNp ?_))
 (refine zGo ?_)
 (refine pl_op rfl (op_fun (u8c (oct a 0) (oct_lt a 0)) rfl rfl e35 zLe rfl (fun r hr => ?_)); subst hr; refine ⟨rfl, ?_⟩; (refine zNp ?_))
 (refine zGo ?_)
 (refine pl_op rfl (op_of (v_concat rfl rfl rfl (by simp; omega)) ?_); (refine zNp ?_))
 (refine zGo ?_)
 refine ret1 _ rfl ?_ rfl
 rw [addrS]
def pfxS (p : TPfx) : Str := addrS p.addr.toNat ++ [47] ++ dec p.bits.toNat
theorem addrS_len (a : Nat) : (addrS a).length ≤ 19 := by
 have l0 : (dec (oct a 0)).length ≤ 4 := dec_small (by have := oct_lt a 0; omega)
 have l1 : (dec (oct a 8)).length ≤ 4 := dec_small (by have := oct_lt a 8; omega)
 have l2 : (dec (oct a 16)).length ≤ 4 := dec_small (by have := oct_lt a 16; omega)
 have l3 : (dec (oct a 24)).length ≤ 4 := dec_small (by have := oct_lt a 24; omega)
 simp only [addrS, List.length_append, List.length_singleton]
 omega
theorem c36 (p : TPfx) (hp : PfxIn p) (hv : rvalid p = true) (hb : 0 ≤ p.bits ∧ p.bits ≤ 32) : PFun Tryz.prog Gl 81 [ePfx p] fun r => r = .str (pfxS p) := by
 refine PFun.of hT Tryz.func81 rfl fun B hD => ?_
 refine pw_norm rfl ?_
 have ha : ((p.addr.toNat : Nat) : Int) = p.addr := Int.toNat_of_nonneg hp.1
 have h81 : PFun Tryz.prog Gl 34 [.int .u32 p.addr] fun r => r = .str (addrS p.addr.toNat) := by
  have := c81 (Gl := Gl) p.addr.toNat (by have := hp.2; omega)
  rw [ha] at this
  exact this
 have hl := addrS_len p.addr.toNat
 have hl2 : (dec p.bits.toNat).length ≤ 4 := dec_small (by omega)
 (refine zGo ?_)
 (refine pl_op rfl (op_fun (c53 p) rfl rfl e89 zLe rfl (fun r hr => ?_)); subst hr; refine ⟨rfl, ?_⟩; (refine zNp ?_))
 rw [hv]
 (refine zGo ?_)
 refine zDr [[0,1,4,5],[2],[3],[6],[7,8]] ?_
 (refine zDgo ?_)
 (refine po_step rfl rfl (op_fun (h81) rfl rfl e34 zLe rfl (fun r hr => ?_)); subst hr; refine ⟨rfl, zLok, ?_⟩; refine zDn ?_)
 (refine zDgo ?_)
 (refine po_val rfl rfl (v_concat rfl rfl rfl (by simp; omega)) ?_; refine zDn ?_)
 (refine zDgo ?_)
 (refine po_step rfl rfl (op_fun (c35s p.bits hb.1 (by omega)) rfl rfl e35 zLe rfl (fun r hr => ?_)); subst hr; refine ⟨rfl, zLok, ?_⟩; refine zDn ?_)
 (refine zDgo ?_)
 (refine po_val rfl rfl (v_concat rfl rfl rfl (by simp; omega)) ?_; refine zDn ?_)
 (refine zDgo ?_)
 (refine zGo ?_)
 exact ret1 _ rfl rfl rfl
def joinW : Nat → List Str → Str
 | _, [] => []
 | 0, w :: ws => w ++ joinW 1 ws
 | k + 1, w :: ws => [32] ++ w ++ joinW (k + 2) ws
def lineS (w : List Str) : Str := joinW 0 w ++ [10]
def textS (l : List TLine) : Str := (l.map fun x => lineS x.words).flatten
theorem isSep_eq (b : UInt8) : (((b.toNat : Int) != 44) && ((b.toNat : Int) != 61)) = !isSep b := by
 unfold isSep
 rw [← byte_eq b 44, ← byte_eq b 61, Bool.not_or]; rfl
theorem isWord_eq (b : UInt8) : ((!isBlank b && ((b.toNat : Int) != 44)) && ((b.toNat : Int) != 61)) = isWord b := by
 rw [Bool.and_assoc, isSep_eq]; rfl
theorem c59 (s : Str) (hl : Small s) : PFun Tryz.prog Gl 52 [.str s] fun r => r = .sl ((rwords s).map .str) := by
 refine PFun.of hT Tryz.func52 rfl fun B hD => ?_
 refine pw_norm rfl ?_
 unfold Small at hl
 (refine zGo ?_)
 refine pw_ghost 1 ?_
 refine pw_norm rfl ?_
 refine pw_for hD (fun a : Nat × List Str × Nat => [(3, .msl 1 0 0 (a.2.1.map PV.str).length a.2.2), (4, .int .i64 a.1)]) (fun a => [.arr 1 (a.2.1.map .str) a.2.2])
  (fun a => a.2.1.length ≤ a.1 ∧ a.1 ≤ s.length ∧ a.2.1 ++ rwords (s.drop a.1) = rwords s) (fun a => s.length - a.1) (0, [], 0)
  ⟨Nat.zero_le _, Nat.zero_le _, rfl⟩ 1 rfl (fun _ => rfl) ⟨.inl rfl, trivial⟩ (fun _ => rfl) (fun _ => rfl) zLe ?_
 rintro ⟨i, out, cap⟩ ⟨ho, hi, hw⟩
 dsimp only at ho hi hw ⊢
 (refine zGo ?_)
 refine pw_cond rfl (fun h1 => ?_) (fun h1 => ?_)
 ·simp only [decide_eq_true_eq] at h1
  have hlt : i < s.length := by omega
  have hg := get_getD hlt
  rw [drop_getD hlt, rwords_cons] at hw
  generalize s.getD i 0 = c at hg hw
  (refine zGo ?_)
  (refine pl_op rfl (op_of (v_indexs (c := c) hT rfl rfl rfl rfl (by omega) (hg)) ?_); (refine zNp ?_))
  (refine pl_op rfl (op_fun (c95 c) rfl rfl e106 zLe rfl (fun r hr => ?_)); subst hr; refine ⟨rfl, ?_⟩; (refine zNp ?_))
  (refine zGo ?_)
  refine pw_cond rfl (fun h2 => ?_) (fun h2 => ?_)
  ·rw [h2] at hw
   (refine zGo ?_)
   exact ⟨(i + 1, out, cap), ⟨by show out.length ≤ i + 1; omega, hlt, hw⟩, by show _ - (i + 1) < _ - i; omega, zLe, zLes⟩
  rw [h2] at hw
  dsimp only at hw
  refine pw_joinY hD (fun n : Nat => 1 ≤ n ∧ i + n ≤ s.length ∧ (out ++ [sub s i (i + n)]) ++ rwords (s.drop (i + n)) = rwords s) (fun n => [(5, .int .i64 n)]) (fun _ => [.arr 1 (out.map .str) cap]) 1 rfl (fun _ => rfl) (fun _ => rfl) (fun _ => rfl) (fun _ _ h => h) ?_ ?_
  ·(refine zGo ?_)
   (refine pl_op rfl (op_of (v_indexs (c := c) hT rfl rfl rfl rfl (by omega) (hg)) ?_); (refine zNp ?_))
   (refine zGo ?_)
   (refine pl_and 5 22 27 ((c.toNat : Int) != 61) rfl rfl rfl (fun hb => ?_) (fun hb => ?_) ?_; (focus ((refine zNp ?_); (refine zGo ?_); (refine pl_on rfl rfl (op_of (v_indexs (c := c) hT rfl rfl rfl rfl (by omega) (hg)) ?_); (refine zNp ?_)); (refine zGo ?_); exact ⟨zLe, StLe.refl _⟩)); (focus ((refine zNp ?_); (refine zGo ?_); exact ⟨zLe, StLe.refl _⟩)); (refine zNp ?_); (refine zGo ?_))
   refine pw_cond rfl (fun h3 => ?_) (fun h3 => ?_)
   ·have h4 : isSep c = false := by have := isSep_eq c; rw [show (((c.toNat : Int) != 44) && ((c.toNat : Int) != 61)) = true from h3] at this; simpa using this.symm
    rw [h4] at hw
    dsimp only at hw
    (refine zGo ?_)
    refine pw_for hD (fun n : Nat => [(5, .int .i64 n)]) (fun _ => [.arr 1 (out.map .str) cap]) (fun n => 1 ≤ n ∧ i + n ≤ s.length ∧ (s.drop (i + 1)).takeWhile isWord = sub s (i + 1) (i + n) ++ (s.drop (i + n)).takeWhile isWord ∧ (s.drop (i + 1)).dropWhile isWord = (s.drop (i + n)).dropWhile isWord) (fun n => s.length - (i + n)) 1
     ⟨Nat.le_refl _, hlt, by simp [sub_nil], rfl⟩ 1 rfl (fun _ => rfl) ⟨.inl rfl, trivial⟩ (fun _ => rfl) (fun _ => rfl) zLe ?_
    rintro n ⟨hn, hin, e1, e2⟩
    (refine zGo ?_)
    have hge : i + n < s.length → s[((i : Int) + (n : Int)).toNat]? = some (s.getD (i + n) 0) := fun h => by rw [show ((i : Int) + (n : Int)).toNat = i + n by omega]; exact get_getD h
    refine pl_and 8 34 42 (!isBlank (s.getD (i + n) 0)) rfl rfl rfl (fun hb => ?_) (fun hb => ?_) ?_
    ·refine pl_norm rfl ?_
     have hb' := of_decide_eq_true hb
     (refine zGo ?_)
     (refine pl_on rfl rfl (op_of (v_indexs (c := s.getD (i + n) 0) hT rfl rfl rfl rfl (by omega) (hge (by omega))) ?_); (refine zNp ?_))
     (refine zGo ?_)
     (refine pl_on rfl rfl (op_fun (c95 (s.getD (i + n) 0)) rfl rfl e106 zLe rfl (fun r hr => ?_)); subst hr; refine ⟨rfl, ?_⟩; (refine zNp ?_))
     (refine zGo ?_)
     exact ⟨zLe, StLe.refl _⟩
    ·refine pl_norm rfl ?_
     (refine zGo ?_)
     exact ⟨zLe, StLe.refl _⟩
    refine pl_norm rfl ?_
    (refine zGo ?_)
    (refine pl_and 7 43 50 (((s.getD (i + n) 0).toNat : Int) != 44) rfl rfl rfl (fun hb => ?_) (fun hb => ?_) ?_; (focus ((refine zNp ?_); (refine zGo ?_); have hb' := of_decide_eq_true (Bool.and_eq_true_iff.1 hb).1; (refine pl_on rfl rfl (op_of (v_indexs (c := s.getD (i + n) 0) hT rfl rfl rfl rfl (by omega) (hge (by omega))) ?_); (refine zNp ?_)); (refine zGo ?_); exact ⟨zLe, StLe.refl _⟩)); (focus ((refine zNp ?_); (refine zGo ?_); exact ⟨zLe, StLe.refl _⟩)); (refine zNp ?_); (refine zGo ?_))
    (refine pl_and 7 51 58 (((s.getD (i + n) 0).toNat : Int) != 61) rfl rfl rfl (fun hb => ?_) (fun hb => ?_) ?_; (focus ((refine zNp ?_); (refine zGo ?_); have hb' := of_decide_eq_true (Bool.and_eq_true_iff.1 (Bool.and_eq_true_iff.1 hb).1).1; (refine pl_on rfl rfl (op_of (v_indexs (c := s.getD (i + n) 0) hT rfl rfl rfl rfl (by omega) (hge (by omega))) ?_); (refine zNp ?_)); (refine zGo ?_); exact ⟨zLe, StLe.refl _⟩)); (focus ((refine zNp ?_); (refine zGo ?_); exact ⟨zLe, StLe.refl _⟩)); (refine zNp ?_); (refine zGo ?_))
    refine pw_cond rfl (fun h5 => ?_) (fun h5 => ?_)
    ·have h6 : decide ((i : Int) + (n : Int) < (s.length : Int)) = true ∧ isWord (s.getD (i + n) 0) = true := by
      rw [← isWord_eq, ← Bool.and_eq_true_iff, ← Bool.and_assoc, ← Bool.and_assoc]; exact h5
     have hb' := of_decide_eq_true h6.1
     have hlt2 : i + n < s.length := by omega
     (refine zGo ?_)
     refine ⟨n + 1, ⟨by omega, by omega, ?_, ?_⟩, by omega, zLe, zLes⟩
     ·rw [e1, drop_getD hlt2, List.takeWhile_cons, h6.2, ← Nat.add_assoc, sub_snoc (get_getD hlt2) (by omega)]; simp
     ·rw [e2, drop_getD hlt2, List.dropWhile_cons, h6.2, Nat.add_assoc]; simp
    ·have h6 : (s.drop (i + n)).takeWhile isWord = [] ∧ (s.drop (i + n)).dropWhile isWord = s.drop (i + n) := by
      by_cases hlt2 : i + n < s.length
      ·have h7 : isWord (s.getD (i + n) 0) = false := by
        rw [← isWord_eq]
        have h5' : (((decide ((i : Int) + (n : Int) < (s.length : Int)) && !isBlank (s.getD (i + n) 0)) && (((s.getD (i + n) 0).toNat : Int) != 44)) && (((s.getD (i + n) 0).toNat : Int) != 61)) = false := h5
        rw [show decide ((i : Int) + (n : Int) < (s.length : Int)) = true by simp; omega, Bool.true_and] at h5'
        exact h5'
       rw [drop_getD hlt2, List.takeWhile_cons, List.dropWhile_cons, h7]; simp
      ·rw [List.drop_eq_nil_of_le (by omega)]; simp
     (refine zGo ?_)
     refine ⟨n, ⟨hn, hin, ?_⟩, zLe, zLes⟩
     rw [e1, e2, h6.1, h6.2] at hw
     rw [← hw]
     have : sub s i (i + n) = c :: sub s (i + 1) (i + n) := by
      unfold sub
      rw [List.drop_eq_getElem_cons (by simp; omega), List.getElem_take]
      have := List.getElem?_eq_getElem hlt
      rw [hg] at this
      rw [Option.some.inj this]
     simp [this]
   ·have h4 : isSep c = true := by have := isSep_eq c; rw [show (((c.toNat : Int) != 44) && ((c.toNat : Int) != 61)) = false from h3] at this; simpa using this.symm
    rw [h4] at hw
    dsimp only at hw
    (refine zGo ?_)
    refine ⟨1, ⟨Nat.le_refl _, hlt, ?_⟩, zLe, zLes⟩
    rw [← hw, sub_snoc hg (Nat.le_refl _), sub_nil]; simp
  rintro n ⟨hn, hin, hw2⟩
  (refine zGo ?_)
  (refine pl_op rfl (op_of (v_substr hT rfl rfl rfl rfl rfl (by omega) (by omega) (by omega)) ?_); (refine zNp ?_))
  rw [show ((i : Int) + (n : Int)).toNat = i + n by omega]
  (refine zGo ?_)
  (refine pl_append (b := 16) hT hD rfl rfl rfl rfl rfl rfl rfl rfl (.inl (Nat.zero_lt_succ _)) rfl rfl (by simp; omega) (fun cap' _ hcap => ?_); (refine zNp ?_))
  (refine zGo ?_)
  refine ⟨(i + n, out ++ [sub s i (i + n)], cap'), ⟨by show (out ++ [_]).length ≤ i + n; simp; omega, hin, hw2⟩, by show _ - (i + n) < _ - i; omega, ?_, ?_⟩
  ·simp only [List.map_append, List.length_append]
   (exact zLe)
  ·simp only [List.map_append]
   (exact zLes)
 ·simp only [decide_eq_false_iff_not] at h1
  have hie : i = s.length := by omega
  subst hie
  have hw' : out = rwords s := by rw [List.drop_length] at hw; rw [← hw]; simp [rwords, rw1]
  subst hw'
  (refine zGo ?_)
  exact ret0 _ _ rfl rfl (.inr (.inr (.inr (.inl ⟨_, _, _, _, _, _, rfl, rfl, rfl, rfl, rfl⟩)))) rfl

end
end Go.Proofs.YtkaobkjcjodffaaGreatDoor