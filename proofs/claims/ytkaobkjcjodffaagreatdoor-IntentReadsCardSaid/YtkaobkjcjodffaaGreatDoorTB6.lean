/-
 What the arguments of the laws on intents read as.
 The data of intents as plain Lean data, and as pure values.
-/
import Derived.Test.YtkaobkjcjodffaaGreatDoorTLib
import Derived.Test.YtkaobkjcjodffaaGreatDoorTTab
import Derived.Test.YtkaobkjcjodffaaGreatDoorSPwCopy
import Derived.Test.YtkaobkjcjodffaaGreatDoorSPwFork
import Derived.Test.YtkaobkjcjodffaaGreatDoorSPwAuto
import Derived.Test.YtkaobkjcjodffaaGreatDoorSPwMap
set_option maxHeartbeats 20000000
set_option maxRecDepth 100000
namespace Go.Proofs.YtkaobkjcjodffaaGreatDoor
open Go Go.Pw
section
variable {Gl : Glob}
attribute [local irreducible] PW PWL OpP PCalls PWO
structure TLine where
 num : Int
 words : List Str
def eLine (l : TLine) : PV := .agg [.int .i64 l.num, .sl (l.words.map .str)]
def lrun : List Str → Nat → List TLine → List TLine × Int × Int
 | [], _, out => (out, 0, 0)
 | l :: ls, i, out => if !(l.all pbyte) then ([], (i : Int) + 1, 4) else if decide (((words l).length : Int) > 64) then ([], (i : Int) + 1, 3) else if decide (((words l).length : Int) > 0) then lrun ls (i + 1) (out ++ [⟨(i : Int) + 1, words l⟩]) else lrun ls (i + 1) out
def lines (s : Str) : List TLine × Int × Int := if decide ((s.length : Int) > 16384) then ([], 0, 3) else lrun (splitAt 10 s) 0 []
theorem splitB_size (sep : ByteArray) : ∀ (k : Nat) (s p : ByteArray), p ∈ Lib.splitB sep 0 k s → p.size ≤ s.size
 | 0, s, p, h => by simp [Lib.splitB] at h; subst h; exact Nat.le_refl _
 | k + 1, s, p, h => by
  unfold Lib.splitB at h
  split at h
  ·simp at h; subst h; exact Nat.le_refl _
  ·rcases List.mem_cons.1 h with rfl | h
   ·simp [ByteArray.size_extract]; omega
   ·have := splitB_size sep k _ p h
    simp [ByteArray.size_extract] at this; omega
theorem splitAt_size {c : UInt8} {s p : Str} (h : p ∈ splitAt c s) : p.length ≤ s.length := by
 obtain ⟨b, hb, rfl⟩ := List.mem_map.1 h
 have := splitB_size _ _ _ _ hb
 rw [bytes_size] at this
 exact this
theorem c60 (hG : GM Gl) (s : Str) : PFun Tryz.prog Gl 45 [.str s] fun r => r = .tup [.sl ((lines s).1.map eLine), .int .i64 (lines s).2.1, .int .i64 (lines s).2.2] := by
 refine PFun.of hT Tryz.func45 rfl fun B hD => ?_
 refine pw_norm rfl ?_
 (refine zGo ?_)
 refine pw_cond rfl (fun h => ?_) (fun h => ?_)
 ·(refine zGo ?_)
  refine ret0 _ (.tup [.sl [], .int .i64 0, .int .i64 3]) rfl ?_ (.inr (.inr (.inr (.inr (.inr ⟨_, _, rfl, rfl, .inr (.inr (.inl ⟨rfl, rfl⟩)), .inr (.inl rfl), .inr (.inl rfl), trivial⟩))))) rfl
  have h' : decide ((s.length : Int) > 16384) = true := h
  simp only [lines, h', if_true]
  rfl
 ·have h' : decide ((s.length : Int) > 16384) = false := h
  have hsm : s.length ≤ 16384 := by have h'' := h; simp at h''; omega
  (refine zGo ?_)
  (refine pl_op rfl (op_fun (c96 hG s 10 (by omega)) rfl rfl e92 zLe rfl (fun r hr => ?_)); subst hr; refine ⟨rfl, ?_⟩; (refine zNp ?_))
  (refine zGo ?_)
  refine pw_ghost 2 ?_
  refine pw_norm rfl ?_
  generalize hps : splitAt 10 s = ps at *
  have hpl : ps.length ≤ s.length + 1 := by rw [← hps, splitAt_len]; have := List.count_le_length (a := (10 : UInt8)) (l := s); omega
  have hpz : ∀ p ∈ ps, p.length ≤ s.length := fun p hp => splitAt_size (hps ▸ hp)
  refine pw_for hD (fun a : Nat × List TLine × Nat => [(5, .msl 2 0 0 (a.2.1.map eLine).length a.2.2), (15, .int .i64 a.1)]) (fun a => [.arr 2 (a.2.1.map eLine) a.2.2]) (fun a => lrun (ps.drop a.1) a.1 a.2.1 = lrun ps 0 [] ∧ a.1 ≤ ps.length ∧ a.2.1.length ≤ a.1) (fun a => ps.length - a.1) (0, [], 0) ⟨rfl, Nat.zero_le _, Nat.le_refl _⟩ 1 rfl (fun _ => rfl)
   ⟨.inl rfl, trivial⟩ (fun _ => rfl) (fun _ => rfl) zLe ?_
  rintro ⟨i, out, cap⟩ ⟨hw, hi, ho⟩
  (refine zGo ?_)
  refine pw_cond rfl (fun h1 => ?_) (fun h1 => ?_)
  ·simp only [decide_eq_true_eq, List.length_map] at h1
   have hlt : i < ps.length := by omega
   have hz : ps[i].length ≤ s.length := hpz _ (List.getElem_mem hlt)
   have hdr : ps.drop i = ps[i] :: ps.drop (i + 1) := List.drop_eq_getElem_cons hlt
   have hw' := hw
   simp only [hdr, lrun] at hw'
   have hoB : out.length ≤ i := ho
   (refine zGo ?_)
   (refine pl_op rfl (op_of (v_index (p := .str ps[i]) hT rfl rfl rfl rfl (by omega) (by simp [hlt]) rfl) ?_); (refine zNp ?_))
   (refine zGo ?_)
   (refine pl_op rfl (op_fun (c97 ps[i] (by unfold Small; omega)) rfl rfl e93 zLe rfl (fun r hr => ?_)); subst hr; refine ⟨rfl, ?_⟩; (refine zNp ?_))
   (refine zGo ?_)
   refine pw_cond rfl (fun h2 => ?_) (fun h2 => ?_)
   ·(refine zGo ?_)
    refine ret0 _ (.tup [.sl [], .int .i64 ((i : Int) + 1), .int .i64 4]) rfl ?_ (.inr (.inr (.inr (.inr (.inr ⟨_, _, rfl, rfl, .inr (.inr (.inl ⟨rfl, rfl⟩)), .inr (.inl rfl), .inr (.inl rfl), trivial⟩))))) rfl
    rw [if_pos h2] at hw'
    simp only [lines, h', Bool.false_eq_true, if_false, hps, ← hw']
    rfl
   ·rw [if_neg (by rw [h2]; simp)] at hw'
    (refine zGo ?_)
    (refine pl_op rfl (op_fun (c98 ps[i] (by unfold Small; omega)) rfl rfl e94 zLe rfl (fun r hr => ?_)); subst hr; refine ⟨rfl, ?_⟩; (refine zNp ?_))
    (refine zGo ?_)
    refine pw_cond rfl (fun h3 => ?_) (fun h3 => ?_)
    ·have h3' : decide (((words ps[i]).length : Int) > 64) = true := by simpa [List.length_map] using h3
     rw [if_pos h3'] at hw'
     (refine zGo ?_)
     refine ret0 _ (.tup [.sl [], .int .i64 ((i : Int) + 1), .int .i64 3]) rfl ?_ (.inr (.inr (.inr (.inr (.inr ⟨_, _, rfl, rfl, .inr (.inr (.inl ⟨rfl, rfl⟩)), .inr (.inl rfl), .inr (.inl rfl), trivial⟩))))) rfl
     simp only [lines, h', Bool.false_eq_true, if_false, hps, ← hw']
     rfl
    ·have h3' : ¬ decide (((words ps[i]).length : Int) > 64) = true := by intro e; simp [List.length_map] at h3 e; omega
     rw [if_neg h3'] at hw'
     (refine zGo ?_)
     refine pw_cond rfl (fun h4 => ?_) (fun h4 => ?_)
     ·have h4' : decide (((words ps[i]).length : Int) > 0) = true := by simpa [List.length_map] using h4
      rw [if_pos h4'] at hw'
      (refine zGo ?_)
      (refine pl_append (b := 32) hT hD rfl rfl rfl rfl rfl rfl rfl rfl (.inl (Nat.zero_lt_succ _)) rfl rfl (by simp; omega) (fun cap' _ hcap => ?_); (refine zNp ?_))
      (refine zGo ?_)
      refine ⟨(i + 1, out ++ [⟨(i : Int) + 1, words ps[i]⟩], cap'), ⟨hw', by show i + 1 ≤ _; omega, by show (out ++ [_]).length ≤ i + 1; simp; omega⟩, by show _ - (i + 1) < _ - i; omega, ?_, ?_⟩
      ·simp only [List.map_append, List.length_append]
       (exact zLe)
      ·simp only [List.map_append]
       (exact zLes)
     ·have h4' : ¬ decide (((words ps[i]).length : Int) > 0) = true := by intro e; have e' := of_decide_eq_true e; have h4'' := of_decide_eq_false h4; rw [List.length_map] at h4''; omega
      rw [if_neg h4'] at hw'
      (refine zGo ?_)
      exact ⟨(i + 1, out, cap), ⟨hw', by show i + 1 ≤ _; omega, by show out.length ≤ i + 1; omega⟩, by show _ - (i + 1) < _ - i; omega, zLe, zLes⟩
  ·simp only [decide_eq_false_iff_not, List.length_map] at h1
   have hie : i = ps.length := by have : i ≤ ps.length := hi; omega
   subst hie
   have hw' := hw
   simp only [List.drop_length, lrun] at hw'
   (refine zGo ?_)
   refine ret0 _ (.tup [.sl (out.map eLine), .int .i64 0, .int .i64 0]) rfl ?_ (.inr (.inr (.inr (.inr (.inr ⟨_, _, rfl, rfl, .inr (.inr (.inr (.inl ⟨_, _, _, _, _, _, rfl, rfl, rfl, rfl, rfl⟩))), .inr (.inl rfl), .inr (.inl rfl), trivial⟩))))) rfl
   simp only [lines, h', Bool.false_eq_true, if_false, hps, ← hw']
def modN (v n : Int) : Int := (IntKind.u64.wrap v).tmod n
theorem wrap_u64 (v : Int) : 0 ≤ IntKind.u64.wrap v ∧ IntKind.u64.wrap v < 18446744073709551616 := by
 rw [IntKind.wrap_u64]; omega
theorem modN_lt (v n : Int) (h : 0 < n) : 0 ≤ modN v n ∧ modN v n < n := by
 have := wrap_u64 v
 unfold modN
 exact ⟨Int.tmod_nonneg _ this.1, Int.tmod_lt_of_pos _ h⟩
theorem c31 (v n : Int) (h0 : 0 < n) (h1 : n ≤ 9223372036854775807) : PFun Tryz.prog Gl 23 [.int .i64 v, .int .i64 n] fun r => r = .int .i64 (modN v n) := by
 refine PFun.of hT Tryz.func23 rfl fun B hD => ?_
 refine pw_norm rfl ?_
 (refine zGo ?_)
 (refine pl_op rfl (op_of (v_conv hT rfl rfl rfl rfl rfl) ?_); (refine zNp ?_))
 (refine zGo ?_)
 (refine pl_op rfl (op_of (v_conv (c := n) hT rfl rfl rfl rfl (IntWalk.u64_in _ (by omega))) ?_); (refine zNp ?_))
 (refine pl_op rfl (op_of (v_rem rfl rfl rfl (by omega) rfl) ?_); (refine zNp ?_))
 have := modN_lt v n h0
 unfold modN at this
 (refine pl_op rfl (op_of (v_conv (c := modN v n) hT rfl rfl rfl rfl (IntWalk.i64_in _ (by omega))) ?_); (refine zNp ?_))
 (refine zGo ?_)
 refine ret1 _ rfl rfl rfl
theorem c10 (l : List Int) : PCalls Tryz.prog Gl 10 [.sl (l.map eInt)] [] fun r s => r = .ptr 0 0 ∧ s = [.box [.sl (l.map eInt), .int .i64 0]] := by
 refine PCalls.of hT Tryz.func10 rfl 1 (Nat.zero_le _) fun B hD => ?_
 refine pw_norm rfl ?_
 (refine zGo ?_)
 exact ⟨_, _, _, rfl, ⟨rfl, rfl⟩, .inr (.inl rfl), ⟨.inr (.inl rfl), trivial⟩, rfl, rfl⟩
def Tp (l : List Int) : Prop := l.length ≤ 9223372036854775807
theorem c13 (l : List Int) (hl : Tp l) (i : Nat) (hi : i ≤ l.length) (n : Int) (hn : n ≤ 9223372036854775807) : PCalls Tryz.prog Gl 17 [.ptr 0 0, .int .i64 n] [.box [.sl (l.map eInt), .int .i64 i]] fun r s =>
  ∃ (m : Int) (i' : Nat), r = .int .i64 m ∧ 0 ≤ m ∧ (m < n ∨ m = 0) ∧ i' ≤ l.length ∧ s = [.box [.sl (l.map eInt), .int .i64 i']] := by
 refine PCalls.of hT Tryz.func17 rfl 1 (Nat.le_refl _) fun B hD => ?_
 refine pw_norm rfl ?_
 unfold Tp at hl
 (refine zGo ?_)
 refine zDr [[0,1,2,3,4,5,6,7,8,9,10,11,12,13]] ?_
 (refine zDgo ?_)
 refine po_split 7 rfl (fun h => ?_) (fun h => ?_)
 ·(refine zDgo ?_)
  (refine zGo ?_)
  exact ⟨_, _, _, rfl, ⟨0, i, rfl, Int.le_refl _, .inr rfl, hi, rfl⟩, .inr (.inl rfl), ⟨.inr (.inl rfl), trivial⟩, rfl, rfl⟩
 ·(refine zDgo ?_)
  (refine zGo ?_)
  refine pw_cond rfl (fun h2 => ?_) (fun h2 => ?_)
  ·(refine zGo ?_)
   exact ⟨_, _, _, rfl, ⟨0, i, rfl, Int.le_refl _, .inr rfl, hi, rfl⟩, .inr (.inl rfl), ⟨.inr (.inl rfl), trivial⟩, rfl, rfl⟩
  ·have hlt : i < l.length := by have h2' := of_decide_eq_false h2; rw [List.length_map] at h2'; omega
   have hn1 : 1 < n := by have h' := of_decide_eq_false h; omega
   (refine zGo ?_)
   refine zDr [[0,1,2,3,4,5,6,7,8,9,10,11],[12],[13]] ?_
   (refine zDgo ?_)
   (refine po_val rfl rfl (v_index (p := eInt l[i]) hT rfl rfl rfl rfl (by omega) (by simp [hlt]) rfl) ?_; refine zDn ?_)
   (refine zDgo ?_)
   (refine po_step rfl rfl (op_fun (c31 l[i] n (by omega) hn) rfl rfl e23 zLe rfl (fun r hr => ?_)); subst hr; refine ⟨rfl, zLok, ?_⟩; refine zDn ?_)
   (refine zDgo ?_)
   (refine zGo ?_)
   have hm := modN_lt l[i] n (by omega)
   exact ⟨_, _, _, rfl, ⟨modN l[i] n, i + 1, rfl, hm.1, .inl hm.2, hlt, rfl⟩, .inr (.inl rfl), ⟨.inr (.inl rfl), trivial⟩, rfl, rfl⟩
def subnets : List TPfx := [⟨167772160, 24⟩, ⟨167772416, 24⟩, ⟨167772672, 25⟩, ⟨167772800, 26⟩, ⟨2886729728, 16⟩, ⟨3232237321, 32⟩]
def subnetN (n : Int) : TPfx := subnets.getD (modN n 6).toNat ⟨0, 0⟩
theorem subnetN_mem (n : Int) : subnetN n ∈ subnets := by
 have hm := modN_lt n 6 (by omega)
 have hlt : (modN n 6).toNat < subnets.length := by show _ < 6; omega
 rw [subnetN, List.getD, List.getElem?_eq_getElem hlt]
 exact List.getElem_mem hlt
theorem subnetN_small (n : Nat) (h : n < 6) : subnetN n = subnets.getD n ⟨0, 0⟩ := by
 have : modN n 6 = n := by
  unfold modN
  rw [IntWalk.u64_in _ (by omega), Int.tmod_eq_of_lt (by omega) (by omega)]
 rw [subnetN, this]; rfl
theorem c37s (n : Int) : PFun Tryz.prog Gl 43 [.int .i64 n] fun r => r = ePfx (subnetN n) := by
 refine PFun.of hT Tryz.func43 rfl fun B hD => ?_
 refine pw_norm rfl ?_
 (refine zGo ?_)
 (refine pl_op rfl (op_fun (c31 n 6 (by omega) (by omega)) rfl rfl e23 zLe rfl (fun r hr => ?_)); subst hr; refine ⟨rfl, ?_⟩; (refine zNp ?_))
 have hm := modN_lt n 6 (by omega)
 have hlt : (modN n 6).toNat < subnets.length := by show _ < 6; omega
 (refine pl_op rfl (op_of (v_index (p := ePfx (subnetN n)) hT rfl rfl rfl rfl (by omega) ((List.getElem?_map (f := ePfx) (l := subnets)).trans (by rw [List.getElem?_eq_getElem hlt, subnetN, List.getD, List.getElem?_eq_getElem hlt]; rfl)) rfl) ?_); (refine zNp ?_))
 (refine zGo ?_)
 exact ret1 _ rfl rfl rfl
theorem c37 (n : Int) : PFun Tryz.prog Gl 43 [.int .i64 n] fun r => ∃ p : TPfx, p ∈ subnets ∧ r = ePfx p := (c37s n).mono fun _ h => ⟨_, subnetN_mem n, h⟩
def mask (n : Int) : Int := IntKind.u32.wrap (4294967295 * 2 ^ (min (32 - n).toNat 32))
def andN (a b : Int) : Int := IntKind.u32.wrap (BitVec.ofInt 32 a &&& ~~~ BitVec.ofInt 32 b).toNat
theorem c90 (n : Int) (h0 : 0 ≤ n) (h1 : n ≤ 32) : PFun Tryz.prog Gl 184 [.int .i64 n] fun r => r = .int .u32 (mask n) := by
 refine PFun.of hT Tryz.func184 rfl fun B hD => ?_
 refine pw_norm rfl ?_
 (refine zGo ?_)
 (refine pl_op rfl (op_of (v_conv (c := 32 - n) hT rfl rfl rfl rfl (IntWalk.u64_in _ (by omega))) ?_); (refine zNp ?_))
 (refine pl_op rfl (op_of (v_shl rfl rfl rfl (by omega) rfl) ?_); (refine zNp ?_))
 (refine zGo ?_)
 refine ret1 _ rfl rfl rfl
def pvalid (p : TPfx) : Bool := decide (0 ≤ p.bits) && decide (p.bits ≤ 32) && (andN p.addr (mask p.bits) == 0)
theorem c45 (p : TPfx) : PFun Tryz.prog Gl 148 [ePfx p] fun r => r = .bool (pvalid p) := by
 refine PFun.of hT Tryz.func148 rfl fun B hD => ?_
 refine pw_norm rfl ?_
 (refine zGo ?_)
 refine zDr [[0,1,2,3,4,5,6,7,8,9,10,11,12],[13],[14,15,16,17]] ?_
 (refine zDgo ?_)
 refine po_split 6 rfl (fun h => ?_) (fun h => ?_)
 ·(refine zDgo ?_)
  refine po_split 11 rfl (fun h2 => ?_) (fun h2 => ?_)
  ·(refine zDgo ?_)
   have h' := h
   have h2' := h2
   simp only [decide_eq_true_eq, ge_iff_le] at h' h2'
   (refine po_on rfl rfl rfl (op_fun (c90 p.bits h' h2') rfl rfl e184 zLe rfl (fun r hr => ?_)); subst hr; refine ⟨rfl, zLok, ?_⟩; refine zDn ?_)
   (refine po_gval rfl rfl rfl (v_bits rfl rfl rfl rfl rfl) ?_; refine zDn ?_)
   (refine zDgo ?_)
   (refine zGo ?_)
   refine ret1 _ rfl ?_ rfl
   simp only [pvalid, h', h2', decide_true, Bool.true_and]
   rfl
  ·(refine zDgo ?_)
   (refine zGo ?_)
   refine ret1 _ rfl ?_ rfl
   simp [pvalid, h2]
 ·(refine zDgo ?_)
  (refine zGo ?_)
  refine ret1 _ rfl ?_ rfl
  have h' : ¬ (0 ≤ p.bits) := by simpa using h
  simp [pvalid, h']
def tDevice (t : Topo) (name : Str) : Int := firstAt (fun d => d.name == name) t.devs
def tEdge (t : Topo) (name : Str) : Int := firstAt (fun d => d.name == name) t.edges
def rsize (n : Int) : Int := IntKind.u64.wrap (1 * 2 ^ (min (32 - n).toNat 64))
theorem c94 (n : Int) (h0 : 0 ≤ n) (h1 : n ≤ 32) : PFun Tryz.prog Gl 90 [.int .i64 n] fun r => r = .int .u64 (rsize n) := by
 refine PFun.of hT Tryz.func90 rfl fun B hD => ?_
 refine pw_norm rfl ?_
 (refine zGo ?_)
 (refine pl_op rfl (op_of (v_conv (c := 32 - n) hT rfl rfl rfl rfl (IntWalk.u64_in _ (by omega))) ?_); (refine zNp ?_))
 (refine pl_op rfl (op_of (v_shl rfl rfl rfl (by omega) rfl) ?_); (refine zNp ?_))
 (refine zGo ?_)
 refine ret1 _ rfl rfl rfl
theorem pow2 (k : Nat) : (2 : Int) ^ k = ((2 ^ k : Nat) : Int) := by simp
theorem rsize_eq (n : Int) (h0 : 0 ≤ n) (h1 : n ≤ 32) : rsize n = ((2 ^ (32 - n).toNat : Nat) : Int) := by
 unfold rsize
 rw [Nat.min_eq_left (by omega), Int.one_mul, pow2]
 have h : (32 - n).toNat ≤ 32 := by omega
 have h2 : (2 : Nat) ^ (32 - n).toNat ≤ 2 ^ 32 := Nat.pow_le_pow_right (by omega) h
 generalize (2 : Nat) ^ (32 - n).toNat = m at *
 exact IntWalk.u64_in _ (by omega)
theorem rsize_pos (n : Int) (h0 : 0 ≤ n) (h1 : n ≤ 32) : 0 < rsize n ∧ rsize n ≤ 4294967296 := by
 rw [rsize_eq n h0 h1]
 have h : (32 - n).toNat ≤ 32 := by omega
 have h2 : (2 : Nat) ^ (32 - n).toNat ≤ 2 ^ 32 := Nat.pow_le_pow_right (by omega) h
 have h3 : 0 < (2 : Nat) ^ (32 - n).toNat := Nat.pow_pos (by omega)
 omega
def rvalid (p : TPfx) : Bool := decide (0 ≤ p.bits) && decide (p.bits ≤ 32) && ((IntKind.u64.wrap p.addr).tmod (rsize p.bits) == 0)
theorem rvalid_bits {p : TPfx} (h : rvalid p = true) : 0 ≤ p.bits ∧ p.bits ≤ 32 := by
 simp only [rvalid, Bool.and_eq_true, decide_eq_true_eq] at h
 exact h.1
theorem c53 (p : TPfx) : PFun Tryz.prog Gl 89 [ePfx p] fun r => r = .bool (rvalid p) := by
 refine PFun.of hT Tryz.func89 rfl fun B hD => ?_
 refine pw_norm rfl ?_
 (refine zGo ?_)
 refine zDr [[0,1,2,3,4,5,6,7,8,9,10,11,12,13],[14],[15,16,17,18]] ?_
 (refine zDgo ?_)
 refine po_split 6 rfl (fun h => ?_) (fun h => ?_)
 ·(refine zDgo ?_)
  refine po_split 11 rfl (fun h2 => ?_) (fun h2 => ?_)
  ·(refine zDgo ?_)
   have h' := h
   have h2' := h2
   simp only [decide_eq_true_eq, ge_iff_le] at h' h2'
   (refine po_gval rfl rfl rfl (v_conv hT rfl rfl rfl rfl rfl) ?_; refine zDn ?_)
   (refine zDgo ?_)
   (refine po_on rfl rfl rfl (op_fun (c94 p.bits h' h2') rfl rfl e90 zLe rfl (fun r hr => ?_)); subst hr; refine ⟨rfl, zLok, ?_⟩; refine zDn ?_)
   have h0 := rsize_pos p.bits h' h2'
   (refine po_gval rfl rfl rfl (v_rem rfl rfl rfl (by omega) rfl) ?_; refine zDn ?_)
   (refine zDgo ?_)
   (refine zGo ?_)
   refine ret1 _ rfl ?_ rfl
   simp only [rvalid, h', h2', decide_true, Bool.true_and]
  ·(refine zDgo ?_)
   (refine zGo ?_)
   refine ret1 _ rfl ?_ rfl
   simp [rvalid, h2]
 ·(refine zDgo ?_)
  (refine zGo ?_)
  refine ret1 _ rfl ?_ rfl
  have h' : ¬ (0 ≤ p.bits) := by simpa using h
  simp [rvalid, h']
def rhi (p : TPfx) : Int := IntKind.u32.wrap (IntKind.u64.wrap (IntKind.u64.wrap (IntKind.u64.wrap p.addr + rsize p.bits) - 1))
def rof (p : TPfx) : Int × Int := if rvalid p then (p.addr, rhi p) else (0, 0)
theorem c54 (p : TPfx) : PFun Tryz.prog Gl 41 [ePfx p] fun r => r = .tup [.agg [.int .u32 (rof p).1, .int .u32 (rof p).2], .bool (rvalid p)] := by
 refine PFun.of hT Tryz.func41 rfl fun B hD => ?_
 refine pw_norm rfl ?_
 (refine zGo ?_)
 (refine pl_op rfl (op_fun (c53 p) rfl rfl e89 zLe rfl (fun r hr => ?_)); subst hr; refine ⟨rfl, ?_⟩; (refine zNp ?_))
 (refine zGo ?_)
 refine pw_cond rfl (fun h => ?_) (fun h => ?_)
 ·(refine zGo ?_)
  refine ret1 _ rfl ?_ rfl
  have h' : rvalid p = false := by simpa using h
  simp only [rof, h']
  rfl
 ·have h' : rvalid p = true := by simpa using h
  have hb := rvalid_bits h'
  (refine zGo ?_)
  refine zDr [[0,1,2,3,4,5,6],[7],[8,9,10,11],[12],[13]] ?_
  (refine zDgo ?_)
  (refine po_val rfl rfl (v_conv hT rfl rfl rfl rfl rfl) ?_; refine zDn ?_)
  (refine zDgo ?_)
  (refine po_step rfl rfl (op_fun (c94 p.bits hb.1 hb.2) rfl rfl e90 zLe rfl (fun r hr => ?_)); subst hr; refine ⟨rfl, zLok, ?_⟩; refine zDn ?_)
  (refine po_val rfl rfl (v_arith rfl rfl rfl rfl rfl) ?_; refine zDn ?_)
  (refine po_val rfl rfl (v_arith rfl rfl rfl rfl rfl) ?_; refine zDn ?_)
  (refine po_val rfl rfl (v_conv hT rfl rfl rfl rfl rfl) ?_; refine zDn ?_)
  (refine zDgo ?_)
  (refine zGo ?_)
  refine ret1 _ rfl ?_ rfl
  simp only [rof, h', if_true]
  rfl
def rcont (p : TPfx) (a : Int) : Bool := rvalid p && decide ((rof p).1 ≤ a) && decide (a ≤ (rof p).2)
def tape (l : List Int) (i : Nat) : PObj := .box [.sl (l.map eInt), .int .i64 i]
def Gen (Gl : Glob) (f : FuncId) (args : List PV) (l : List Int) (i : Nat) (R : PV → Prop) : Prop :=
 PCalls Tryz.prog Gl f (.ptr 0 0 :: args) [tape l i] fun r s => ∃ i' : Nat, R r ∧ i' ≤ l.length ∧ s = [tape l i']
theorem c13n (l : List Int) (hl : Tp l) (i : Nat) (hi : i ≤ l.length) (n : Nat) (hn : 0 < n) (hn2 : n ≤ 1000) : Gen Gl 17 [.int .i64 n] l i fun r => ∃ m : Nat, m < n ∧ r = .int .i64 m := by
 refine (c13 l hl i hi n (by omega)).mono ?_
 rintro r s ⟨m, i', rfl, h1, h2, h3, rfl⟩
 refine ⟨i', ⟨m.toNat, by omega, ?_⟩, h3, rfl⟩
 rw [Int.toNat_of_nonneg h1]
theorem lit_at {α : Type} (e : α → PV) (L : List α) (m : Nat) (d : α) (h : m < L.length) : (L.map e)[((m : Nat) : Int).toNat]? = some (e (L.getD m d)) := by
 rw [Int.toNat_natCast, List.getElem?_map, List.getD, List.getElem?_eq_getElem h]; rfl
theorem getD_mem {α : Type} {L : List α} {m : Nat} {d : α} (h : m < L.length) : L.getD m d ∈ L := by
 rw [List.getD, List.getElem?_eq_getElem h]; exact List.getElem_mem h
def addrs : List Int := [0, 4294967295, 3405803781, 3325256705, 168296448, 2130706433]
theorem u32_range (n : Int) : 0 ≤ IntKind.u32.wrap n ∧ IntKind.u32.wrap n < 4294967296 := by rw [IntKind.wrap_u32]; omega
theorem rof_range {p : TPfx} (h : 0 ≤ p.addr ∧ p.addr < 4294967296) : (0 ≤ (rof p).1 ∧ (rof p).1 < 4294967296) ∧ (0 ≤ (rof p).2 ∧ (rof p).2 < 4294967296) := by
 unfold rof
 split
 ·exact ⟨h, u32_range _⟩
 ·exact ⟨⟨by decide, by decide⟩, ⟨by decide, by decide⟩⟩
theorem c22 (l : List Int) (hl : Tp l) (i : Nat) (hi : i ≤ l.length) : Gen Gl 57 [] l i fun r => ∃ a : Int, (0 ≤ a ∧ a < 4294967296) ∧ r = .int .u32 a := by
 refine PCalls.of hT Tryz.func57 rfl 1 (Nat.le_refl _) fun B hD => ?_
 refine pw_norm rfl ?_
 (refine zGo ?_)
 (refine pl_op rfl (zCl [0] e17 (c13n l hl i hi 5 (by decide) (by decide)) (fun r s hq => ?_)); obtain ⟨i1, ⟨m1, hm1, rfl⟩, hi1, rfl⟩ := hq; refine ⟨rfl, rfl, ?_⟩; (refine zNp ?_))
 (refine zGo ?_)
 refine pw_cond rfl (fun h => ?_) (fun h => ?_)
 ·(refine zGo ?_)
  (refine pl_op rfl (zCl [0] e17 (c13n l hl i1 hi1 6 (by decide) (by decide)) (fun r s hq => ?_)); obtain ⟨i2, ⟨m2, hm2, rfl⟩, hi2, rfl⟩ := hq; refine ⟨rfl, rfl, ?_⟩; (refine zNp ?_))
  (refine pl_op rfl (op_of (v_index (p := .int .u32 (addrs.getD m2 0)) hT rfl rfl rfl rfl (by omega) (lit_at (.int .u32) addrs m2 0 hm2) rfl) ?_); (refine zNp ?_))
  (refine zGo ?_)
  have hr : ∀ a ∈ addrs, 0 ≤ a ∧ a < 4294967296 := by decide
  exact ⟨_, _, _, rfl, ⟨i2, ⟨_, hr _ (getD_mem hm2), rfl⟩, hi2, rfl⟩, .inr (.inl rfl), ⟨.inr (.inl rfl), trivial⟩, rfl, rfl⟩
 ·(refine zGo ?_)
  (refine pl_op rfl (zCl [0] e17 (c13n l hl i1 hi1 6 (by decide) (by decide)) (fun r s hq => ?_)); obtain ⟨i2, ⟨m2, hm2, rfl⟩, hi2, rfl⟩ := hq; refine ⟨rfl, rfl, ?_⟩; (refine zNp ?_))
  (refine pl_op rfl (op_fun (c37 m2) rfl rfl e43 zLe rfl (fun r hr => ?_)); obtain ⟨p, hp, rfl⟩ := hr; refine ⟨rfl, ?_⟩; (refine zNp ?_))
  have hpr : 0 ≤ p.addr ∧ p.addr < 4294967296 := by
   have : ∀ p ∈ subnets, 0 ≤ p.addr ∧ p.addr < 4294967296 := by decide
   exact this p hp
  have hro := rof_range hpr
  (refine zGo ?_)
  (refine pl_op rfl (op_fun (c54 p) rfl rfl e41 zLe rfl (fun r hr => ?_)); subst hr; refine ⟨rfl, ?_⟩; (refine zNp ?_))
  generalize rof p = q at hro ⊢
  (refine zGo ?_)
  refine zDr [[0,1,2,3,4,5,6,7,8,9,10,11,12,13,14],[15],[16,17,18]] ?_
  (refine zDgo ?_)
  (refine po_val rfl rfl (v_arith rfl rfl rfl rfl rfl) ?_; refine zDn ?_)
  (refine zDgo ?_)
  (refine po_val rfl rfl (v_arith rfl rfl rfl rfl rfl) ?_; refine zDn ?_)
  (refine zDgo ?_)
  (refine po_val rfl rfl (v_arith rfl rfl rfl rfl rfl) ?_; refine zDn ?_)
  (refine zDgo ?_)
  (refine po_make rfl rfl (fun st' K hK => op_litF hT rfl rfl rfl rfl rfl (by decide) rfl rfl rfl rfl hK) ?_; refine zDn ?_)
  (refine zDgo ?_)
  (refine po_step rfl rfl (zCl [0] e17 (c13n l hl i2 hi2 5 (by decide) (by decide)) (fun r s hq => ?_)); obtain ⟨i3, ⟨m3, hm3, rfl⟩, hi3, rfl⟩ := hq; refine ⟨rfl, rfl, zLok, ?_⟩; refine zDn ?_)
  (refine zDgo ?_)
  (refine po_val rfl rfl (v_index (p := .int .u32 ([q.1, q.2, IntKind.u32.wrap (q.1 + 5), IntKind.u32.wrap (q.2 + 1), IntKind.u32.wrap (q.1 - 1)].getD m3 0)) hT rfl rfl rfl rfl (by omega) (lit_at (.int .u32) [q.1, q.2, IntKind.u32.wrap (q.1 + 5), IntKind.u32.wrap (q.2 + 1), IntKind.u32.wrap (q.1 - 1)] m3 0 hm3) rfl) ?_; refine zDn ?_)
  (refine zDgo ?_)
  (refine zGo ?_)
  have hr : ∀ a ∈ [q.1, q.2, IntKind.u32.wrap (q.1 + 5), IntKind.u32.wrap (q.2 + 1), IntKind.u32.wrap (q.1 - 1)], 0 ≤ a ∧ a < 4294967296 := by
   intro a ha
   simp only [List.mem_cons, List.mem_nil_iff, or_false] at ha
   rcases ha with rfl | rfl | rfl | rfl | rfl
   ·exact hro.1
   ·exact hro.2
   all_goals exact u32_range _
  exact ⟨_, _, _, rfl, ⟨i3, ⟨_, hr _ (getD_mem hm3), rfl⟩, hi3, rfl⟩, .inr (.inl rfl), ⟨.inr (.inl rfl), trivial⟩, rfl, rfl⟩
theorem wt_int {n : Nat} {t : TypeId} {ps : List PV} {k : IntKind} {a b : Nat} {z : Option (List PV)} (ht : tys[t]? = some ⟨.int k, a, b, z⟩) (h : WT tys (n + 1) t ps) : ∃ m, ps = [.int k m] ∧ k.min ≤ m ∧ m ≤ k.max := by
 unfold WT at h
 rw [ht] at h
 obtain ⟨m, hm, hw⟩ := h
 refine ⟨m, hm, ?_⟩
 simpa [Lit.wf] using hw
theorem wt_bool {n : Nat} {t : TypeId} {ps : List PV} {a b : Nat} {z : Option (List PV)} (ht : tys[t]? = some ⟨.bool, a, b, z⟩) (h : WT tys (n + 1) t ps) : ∃ m, ps = [.bool m] := by
 unfold WT at h
 rw [ht] at h
 exact h
theorem wt_str {n : Nat} {t : TypeId} {ps : List PV} {a b : Nat} {z : Option (List PV)} (ht : tys[t]? = some ⟨.str, a, b, z⟩) (h : WT tys (n + 1) t ps) : ∃ m, ps = [.str m] := by
 unfold WT at h
 rw [ht] at h
 obtain ⟨m, hm, _⟩ := h
 exact ⟨m, hm⟩
theorem wt_strct {n : Nat} {t : TypeId} {ps : List PV} {l : List (Nat × Nat × Bool × TypeId)} {a b : Nat} {z : Option (List PV)} (ht : tys[t]? = some ⟨.strct l, a, b, z⟩) (h : WT tys (n + 1) t ps) : ps.length = a ∧ ∀ (i : Nat) x, l[i]? = some x → WT tys n x.2.2.2 ((ps.drop x.1).take x.2.1) := by
 unfold WT at h
 rw [ht] at h
 exact ⟨h.1, fun i x hx => h.2 x (List.mem_of_getElem? hx)⟩
theorem map_of {α : Type} {Q : α → Prop} {e : α → PV} : ∀ {xs : List PV}, (∀ x ∈ xs, ∃ d, Q d ∧ x = e d) → ∃ l : List α, xs = l.map e ∧ ∀ d ∈ l, Q d
 | [], _ => ⟨[], rfl, by simp⟩
 | x :: xs, h => by
  obtain ⟨d, hd, rfl⟩ := h x (List.mem_cons_self ..)
  obtain ⟨l, rfl, hl⟩ := map_of (xs := xs) fun y hy => h y (List.mem_cons_of_mem _ hy)
  refine ⟨d :: l, rfl, fun z hz => ?_⟩
  rcases List.mem_cons.1 hz with rfl | hz
  ·exact hd
  ·exact hl z hz
theorem wt_sl {α : Type} {Q : α → Prop} {e : α → PV} {n : Nat} {t el s : TypeId} {ps : List PV} {a b c : Nat} {z : Option (List PV)} (ht : tys[t]? = some ⟨.sl el s c, a, b, z⟩) (h : WT tys (n + 1) t ps)
  (he : ∀ cells, WT tys n el cells → ∃ d, Q d ∧ mkE (((tys[el]?).map fun ti => ti.tk.agg).getD false) cells = e d) : ∃ l : List α, ps = [.sl (l.map e)] ∧ l.length ≤ maxLen ∧ ∀ d ∈ l, Q d := by
 unfold WT at h
 rw [ht] at h
 obtain ⟨xs, rfl, hl, hx⟩ := h
 obtain ⟨l, rfl, hq⟩ := map_of (e := e) (Q := Q) (xs := xs) fun x hxm => by
  obtain ⟨_, h2, h3⟩ := hx x hxm
  obtain ⟨d, hd, hde⟩ := he _ h2
  exact ⟨d, hd, h3.trans hde⟩
 exact ⟨l, rfl, by simpa only [List.length_map] using hl, hq⟩
def PfxIn' (p : TPfx) : Prop := 0 ≤ p.addr ∧ p.addr < 4294967296
theorem u32_bounds {m : Int} (h : IntKind.u32.min ≤ m ∧ m ≤ IntKind.u32.max) : 0 ≤ m ∧ m < 4294967296 := by
 have h1 : IntKind.u32.min = 0 := by decide
 have h2 : IntKind.u32.max = 4294967295 := by decide
 rw [h1, h2] at h
 omega
theorem wt_pfx {n : Nat} {cells : List PV} (h : WT tys (n + 2) 90 cells) : ∃ p, PfxIn' p ∧ cells = (ePfx p).cells := by
 obtain ⟨hl, hf⟩ := wt_strct (t := 90) rfl h
 match cells, hl with
 | [c0, c1], _ =>
  obtain ⟨a, ha, hb⟩ := wt_int (t := 79) rfl (hf 0 _ rfl)
  obtain ⟨b, hbb, _⟩ := wt_int (t := 3) rfl (hf 1 _ rfl)
  cases ha; cases hbb
  exact ⟨⟨a, b⟩, u32_bounds hb, rfl⟩
theorem wt_ints {n : Nat} {cells : List PV} (h : WT tys (n + 2) 22 cells) : ∃ l : List Int, cells = [.sl (l.map eInt)] ∧ l.length ≤ maxLen := by
 obtain ⟨l, h0, hl, _⟩ := wt_sl (t := 22) (e := eInt) (Q := fun _ => True) rfl h fun cells hc => by
  obtain ⟨m, rfl, _⟩ := wt_int (t := 3) rfl hc
  exact ⟨m, trivial, rfl⟩
 exact ⟨l, h0, hl⟩
structure TRng where
 lo : Int
 hi : Int
 deriving DecidableEq
structure TItem where
 kind : Int
 name : Str
 pfx : TPfx
 proto : Int
 ports : TRng
structure TDef where
 name : Str
 items : List TItem
structure TWin where
 name : Str
 active : List TRng
structure TStm where
 permit : Bool
 src : Str
 dst : Str
 service : Str
 excepted : Bool
 exSrc : Str
 exDst : Str
 cls : Str
 during : Str
 prio : Int
structure TPub where
 addr : Int
 proto : Int
 port : Int
 edge : Str
 real : Int
 realPort : Int
structure THid where
 group : Str
 edge : Str
 addr : Int
 ports : TRng
structure TInt where
 groups : List TDef
 services : List TDef
 windows : List TWin
 stms : List TStm
 pubs : List TPub
 hids : List THid
def eRng (r : TRng) : PV := .agg [.int .u32 r.lo, .int .u32 r.hi]
def eItem (x : TItem) : PV := .agg [.int .i64 x.kind, .str x.name, .int .u32 x.pfx.addr, .int .i64 x.pfx.bits, .int .i64 x.proto, .int .u32 x.ports.lo, .int .u32 x.ports.hi]
def eDef (d : TDef) : PV := .agg [.str d.name, .sl (d.items.map eItem)]
def eWin (w : TWin) : PV := .agg [.str w.name, .sl (w.active.map eRng)]
def eStm (s : TStm) : PV := .agg [.bool s.permit, .str s.src, .str s.dst, .str s.service, .bool s.excepted, .str s.exSrc, .str s.exDst, .str s.cls, .str s.during, .int .i64 s.prio]
def ePub (p : TPub) : PV := .agg [.int .u32 p.addr, .int .i64 p.proto, .int .i64 p.port, .str p.edge, .int .u32 p.real, .int .i64 p.realPort]
def eHid (h : THid) : PV := .agg [.str h.group, .str h.edge, .int .u32 h.addr, .int .u32 h.ports.lo, .int .u32 h.ports.hi]
def eIntent (i : TInt) : PV := .agg [.sl (i.groups.map eDef), .sl (i.services.map eDef), .sl (i.windows.map eWin), .sl (i.stms.map eStm), .sl (i.pubs.map ePub), .sl (i.hids.map eHid)]
instance : Inhabited TPfx := ⟨⟨0, 0⟩⟩
instance : Inhabited TRng := ⟨⟨0, 0⟩⟩
instance : Inhabited TItem := ⟨⟨0, [], ⟨0, 0⟩, 0, ⟨0, 0⟩⟩⟩
instance : Inhabited TDef := ⟨⟨[], []⟩⟩
instance : Inhabited TWin := ⟨⟨[], []⟩⟩
instance : Inhabited TStm := ⟨⟨false, [], [], [], false, [], [], [], [], 0⟩⟩
instance : Inhabited TPub := ⟨⟨0, 0, 0, [], 0, 0⟩⟩
instance : Inhabited THid := ⟨⟨[], [], 0, ⟨0, 0⟩⟩⟩
def rng0 : TRng := ⟨0, 0⟩
def pfx0 : TPfx := ⟨0, 0⟩
def eU (n : Int) : PV := .int .u32 n
def orB (a b : Int) : Int := IntKind.u32.wrap (BitVec.ofInt 32 a ||| BitVec.ofInt 32 b).toNat
def shlB (a : Int) (n : Nat) : Int := IntKind.u32.wrap (a * 2 ^ n)
def joinA (p : List Int) : Int := orB (orB (orB (shlB (p.getD 0 0) 24) (shlB (p.getD 1 0) 16)) (shlB (p.getD 2 0) 8)) (p.getD 3 0)
def aRun : Str → List Int → Nat → Nat → Option Int
 | [], p, n, d => if n ≠ 3 ∨ d = 0 then none else some (joinA p)
 | c :: s, p, n, d =>
  if c.toNat = 46 then (if d = 0 ∨ n = 3 then none else aRun s p (n + 1) 0)
  else if c.toNat < 48 ∨ c.toNat > 57 then none
  else if 0 < d ∧ p.getD n 0 = 0 then none
  else if 10 * p.getD n 0 + ((c.toNat : Int) - 48) > 255 then none
  else aRun s (p.set n (10 * p.getD n 0 + ((c.toNat : Int) - 48))) n (d + 1)
def addrO (o : Option Int) : Int × Bool := match o with | some v => (v, true) | none => (0, false)
def addr (s : Str) : Int × Bool := addrO (aRun s [0, 0, 0, 0] 0 0)
def addrR (o : Option Int) (r : PV) : Prop := r = .tup [.int .u32 (addrO o).1, .bool (addrO o).2]
theorem eU_get (p : List Int) (n : Nat) (hp : p.length = 4) (hn : n ≤ 3) : (p.map eU)[n]? = some (.int .u32 (p.getD n 0)) := by
 rw [List.getElem?_map, List.getD, List.getElem?_eq_getElem (by omega)]; rfl
theorem eU_set (p : List Int) (n : Nat) (v : Int) (hp : p.length = 4) (hn : n ≤ 3) : splice (p.map eU) n [.int .u32 v] = (p.set n v).map eU := by
 apply List.ext_getElem?
 intro j
 rw [splice, splice_get _ _ _ _ (by simp; omega), List.map_set, List.getElem?_set]
 by_cases h : n = j
 ·subst h; simp [eU]; omega
 ·rw [if_neg (by simp; omega), if_neg h]
theorem c129 (s : Str) (hl : Small s) : PFun Tryz.prog Gl 104 [.str s] fun r => addrR (aRun s [0, 0, 0, 0] 0 0) r := by
 refine PFun.of hT Tryz.func104 rfl fun B hD => ?_
 refine pw_norm rfl ?_
 unfold Small at hl
 (refine zGo ?_)
 refine pw_scope ?_ (fun l env st h => h)
 (refine zGo ?_)
 refine pw_label ?_
 (refine zGo ?_)
 refine pw_for hD (fun a : Nat × List Int × Nat × Nat => [(7, .int .i64 a.1), (5, .int .i64 a.2.2.1), (6, .int .i64 a.2.2.2)]) (fun a => [.box (a.2.1.map eU)])
  (fun a => aRun (s.drop a.1) a.2.1 a.2.2.1 a.2.2.2 = aRun s [0, 0, 0, 0] 0 0 ∧ a.1 ≤ s.length ∧ a.2.1.length = 4 ∧ (∀ v ∈ a.2.1, 0 ≤ v ∧ v ≤ 255) ∧ a.2.2.1 ≤ 3 ∧ a.2.2.2 ≤ a.1) (fun a => s.length - a.1) (0, [0, 0, 0, 0], 0, 0) ⟨rfl, Nat.zero_le _, rfl, by decide, by decide, by decide⟩ 1 rfl (fun _ => rfl)
  zLes (fun _ => rfl) (fun a => by simp [PObj.refs, PV.refs, eU]) zLe ?_
 rintro ⟨i, p, n, d⟩ ⟨hw, hi, hp, hv, hn, hd⟩
 dsimp only
 have hi : i ≤ s.length := hi
 have hp : p.length = 4 := hp
 have hn : n ≤ 3 := hn
 have hd : d ≤ i := hd
 have hw : aRun (s.drop i) p n d = aRun s [0, 0, 0, 0] 0 0 := hw
 have hgp : 0 ≤ p.getD n 0 ∧ p.getD n 0 ≤ 255 := by
  have hlt : n < p.length := by omega
  rw [List.getD, List.getElem?_eq_getElem hlt]
  exact hv _ (List.getElem_mem hlt)
 have hget := eU_get p n hp hn
 (refine zGo ?_)
 refine pw_cond rfl (fun h => ?_) (fun h => ?_)
 ·simp only [decide_eq_true_eq] at h
  have hlt : i < s.length := by omega
  rw [List.drop_eq_getElem_cons hlt] at hw
  simp only [aRun] at hw
  (refine zGo ?_)
  (refine pl_op rfl (op_of (v_indexs (c := s[i]) hT rfl rfl rfl rfl (by omega) (by simp [hlt])) ?_); (refine zNp ?_))
  (refine zGo ?_)
  refine pw_cond rfl (fun h1 => ?_) (fun h1 => ?_)
  ·have hc : s[i].toNat = 46 := by simp at h1; omega
   rw [if_pos hc] at hw
   (refine zGo ?_)
   (refine pl_or 3 23 26 ((n : Int) == 3) rfl rfl rfl (fun hb => ?_) (fun hb => ?_) ?_; (focus ((refine zNp ?_); (refine zGo ?_); exact ⟨zLe, StLe.refl _⟩)); (focus ((refine zNp ?_); (refine zGo ?_); exact ⟨zLe, StLe.refl _⟩)); (refine zNp ?_); (refine zGo ?_))
   refine pw_cond rfl (fun h2 => ?_) (fun h2 => ?_)
   ·rw [if_pos (by simp at h2; omega)] at hw
    (refine zGo ?_)
    refine ret1 _ rfl ?_ rfl
    rw [← hw]; rfl
   ·have h2' : ¬ d = 0 ∧ ¬ n = 3 := by simp at h2; omega
    rw [if_neg (by omega)] at hw
    (refine zGo ?_)
    refine ⟨(i + 1, p, n + 1, 0), ⟨hw, by show i + 1 ≤ _; omega, hp, hv, by show n + 1 ≤ 3; omega, by show 0 ≤ i + 1; omega⟩, by show _ - (i + 1) < _ - i; omega, zLe, zLes⟩
  ·have hc : ¬ s[i].toNat = 46 := by simp at h1; omega
   rw [if_neg hc] at hw
   (refine zGo ?_)
   (refine pl_or 3 32 35 (decide ((s[i].toNat : Int) > 57)) rfl rfl rfl (fun hb => ?_) (fun hb => ?_) ?_; (focus ((refine zNp ?_); (refine zGo ?_); exact ⟨zLe, StLe.refl _⟩)); (focus ((refine zNp ?_); (refine zGo ?_); exact ⟨zLe, StLe.refl _⟩)); (refine zNp ?_); (refine zGo ?_))
   refine pw_cond rfl (fun h2 => ?_) (fun h2 => ?_)
   ·rw [if_pos (by simp at h2; omega)] at hw
    (refine zGo ?_)
    refine ret1 _ rfl ?_ rfl
    rw [← hw]; rfl
   ·have h2' : 48 ≤ s[i].toNat ∧ s[i].toNat ≤ 57 := by simp at h2; omega
    rw [if_neg (by omega)] at hw
    (refine zGo ?_)
    (refine pl_and 5 39 44 (p.getD n 0 == 0) rfl rfl rfl (fun hb => ?_) (fun hb => ?_) ?_; (focus ((refine zNp ?_); (refine zGo ?_); (refine pl_on rfl rfl (op_of (v_indexA hT rfl rfl rfl rfl (by omega) (by omega)) ?_); (refine zNp ?_)); (refine pl_on rfl rfl (op_loadA (x := .int .u32 (p.getD n 0)) hT rfl rfl rfl rfl rfl rfl (by simpa using hget) ?_); (refine zNp ?_)); (refine zGo ?_); exact ⟨zLe, StLe.refl _⟩)); (focus ((refine zNp ?_); (refine zGo ?_); exact ⟨zLe, StLe.refl _⟩)); (refine zNp ?_); (refine zGo ?_))
    refine pw_cond rfl (fun h3 => ?_) (fun h3 => ?_)
    ·rw [if_pos (by simp only [Bool.and_eq_true, decide_eq_true_eq, beq_iff_eq] at h3; omega)] at hw
     (refine zGo ?_)
     refine ret1 _ rfl ?_ rfl
     rw [← hw]; rfl
    ·rw [if_neg (by simp only [Bool.and_eq_false_iff, decide_eq_false_iff_not, beq_eq_false_iff_ne] at h3; omega)] at hw
     (refine zGo ?_)
     (refine pl_op rfl (op_of (v_indexA hT rfl rfl rfl rfl (by omega) (by omega)) ?_); (refine zNp ?_))
     (refine pl_op rfl (op_loadA (x := .int .u32 (p.getD n 0)) hT rfl rfl rfl rfl rfl rfl (by simpa using hget) ?_); (refine zNp ?_))
     (refine pl_op rfl (op_of (v_arith rfl rfl rfl rfl (IntWalk.u32_in _ (by omega))) ?_); (refine zNp ?_))
     (refine zGo ?_)
     (refine pl_op rfl (op_of (v_arith rfl rfl rfl rfl (IntWalk.u8_in _ (by omega))) ?_); (refine zNp ?_))
     (refine pl_op rfl (op_of (v_conv hT rfl rfl rfl rfl (IntWalk.u32_in _ (by omega))) ?_); (refine zNp ?_))
     (refine pl_op rfl (op_of (v_arith rfl rfl rfl rfl (IntWalk.u32_in _ (by omega))) ?_); (refine zNp ?_))
     (refine pl_op rfl (op_of (v_indexA hT rfl rfl rfl rfl (by omega) (by omega)) ?_); (refine zNp ?_))
     refine pl_op rfl (op_storeA (p := .int .u32 (10 * p.getD n 0 + ((s[i].toNat : Int) - 48))) (cs' := (p.set n (10 * p.getD n 0 + ((s[i].toNat : Int) - 48))).map eU) hT rfl rfl rfl rfl rfl rfl rfl rfl (by simp; omega) (by simpa [PV.cells] using eU_set p n (10 * p.getD n 0 + ((s[i].toNat : Int) - 48)) hp hn) ?_)
     (refine zNp ?_)
     (refine zGo ?_)
     have hp2 : (p.set n (10 * p.getD n 0 + ((s[i].toNat : Int) - 48))).length = 4 := by simp [hp]
     have hget2 := eU_get (p.set n (10 * p.getD n 0 + ((s[i].toNat : Int) - 48))) n hp2 hn
     have hval : (p.set n (10 * p.getD n 0 + ((s[i].toNat : Int) - 48))).getD n 0 = 10 * p.getD n 0 + ((s[i].toNat : Int) - 48) := by
      rw [List.getD, List.getElem?_set_self (by omega)]; rfl
     rw [hval] at hget2
     (refine pl_op rfl (op_of (v_indexA hT rfl rfl rfl rfl (by omega) (by omega)) ?_); (refine zNp ?_))
     (refine pl_op rfl (op_loadA (x := .int .u32 (10 * p.getD n 0 + ((s[i].toNat : Int) - 48))) hT rfl rfl rfl rfl rfl rfl (by simpa using hget2) ?_); (refine zNp ?_))
     (refine zGo ?_)
     refine pw_cond rfl (fun h4 => ?_) (fun h4 => ?_)
     ·rw [if_pos (by simpa using h4)] at hw
      (refine zGo ?_)
      refine ret1 _ rfl ?_ rfl
      rw [← hw]; rfl
     ·rw [if_neg (by simpa using h4)] at hw
      (refine zGo ?_)
      refine ⟨(i + 1, p.set n (10 * p.getD n 0 + ((s[i].toNat : Int) - 48)), n, d + 1), ⟨hw, by show i + 1 ≤ _; omega, hp2, fun v hvm => ?_, hn, by show d + 1 ≤ i + 1; omega⟩, by show _ - (i + 1) < _ - i; omega, zLe, zLes⟩
      rcases List.mem_or_eq_of_mem_set hvm with h5 | h5
      ·exact hv v h5
      ·have := of_decide_eq_false h4
       omega
 ·simp only [decide_eq_false_iff_not] at h
  have hie : i = s.length := by omega
  subst hie
  rw [List.drop_length] at hw
  simp only [aRun] at hw
  (refine zGo ?_)
  (refine pl_or 3 63 66 ((d : Int) == 0) rfl rfl rfl (fun hb => ?_) (fun hb => ?_) ?_; (focus ((refine zNp ?_); (refine zGo ?_); exact ⟨zLe, StLe.refl _⟩)); (focus ((refine zNp ?_); (refine zGo ?_); exact ⟨zLe, StLe.refl _⟩)); (refine zNp ?_); (refine zGo ?_))
  refine pw_cond rfl (fun h1 => ?_) (fun h1 => ?_)
  ·rw [if_pos (by simp only [Bool.or_eq_true, bne_iff_ne, beq_iff_eq] at h1; omega)] at hw
   (refine zGo ?_)
   refine ret1 _ rfl ?_ rfl
   rw [← hw]; rfl
  ·rw [if_neg (by simp only [Bool.or_eq_false_iff, bne_eq_false_iff_eq, beq_eq_false_iff_ne] at h1; omega)] at hw
   (refine zGo ?_)
   obtain ⟨a, b, c, e, rfl⟩ : ∃ a b c e, p = [a, b, c, e] := by
    match p, hp with
    | [a, b, c, e], _ => exact ⟨a, b, c, e, rfl⟩
   (refine zNp ?_)
   (refine pl_op rfl (op_of (v_indexA hT rfl rfl rfl rfl (by omega) (by omega)) ?_); (refine zNp ?_))
   (refine zGo ?_)
   (refine pl_op rfl (op_of (v_shl rfl rfl rfl (by omega) rfl) ?_); (refine zNp ?_))
   (refine pl_op rfl (op_of (v_indexA hT rfl rfl rfl rfl (by omega) (by omega)) ?_); (refine zNp ?_))
   (refine zGo ?_)
   (refine pl_op rfl (op_of (v_shl rfl rfl rfl (by omega) rfl) ?_); (refine zNp ?_))
   (refine pl_op rfl (op_of (v_bits rfl rfl rfl rfl rfl) ?_); (refine zNp ?_))
   (refine pl_op rfl (op_of (v_indexA hT rfl rfl rfl rfl (by omega) (by omega)) ?_); (refine zNp ?_))
   (refine zGo ?_)
   (refine pl_op rfl (op_of (v_shl rfl rfl rfl (by omega) rfl) ?_); (refine zNp ?_))
   (refine pl_op rfl (op_of (v_bits rfl rfl rfl rfl rfl) ?_); (refine zNp ?_))
   (refine pl_op rfl (op_of (v_indexA hT rfl rfl rfl rfl (by omega) (by omega)) ?_); (refine zNp ?_))
   (refine zGo ?_)
   (refine pl_op rfl (op_of (v_bits rfl rfl rfl rfl rfl) ?_); (refine zNp ?_))
   (refine zGo ?_)
   refine ret1 _ rfl ?_ rfl
   rw [← hw]; rfl

end
end Go.Proofs.YtkaobkjcjodffaaGreatDoor