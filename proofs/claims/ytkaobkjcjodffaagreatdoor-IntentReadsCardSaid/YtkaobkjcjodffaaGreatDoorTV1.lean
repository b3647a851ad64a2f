/-
 Plain laws of valid topologies: the reference's answer is the program's; no address belongs to two edges.
 Plain laws of the lines of a topology: what a valid topology is like, the lines of its text, and how long they are.
 Plain laws of numbers and prefixes: what is written is read back.
 Plain laws of lines: a text of lines is read back as its lines.
 The text of an intent: plain.
 What a valid intent is like, and how long its text is: plain.
-/
import Derived.Test.YtkaobkjcjodffaaGreatDoorTB8
import Derived.Test.YtkaobkjcjodffaaGreatDoorTK51
import Derived.Test.YtkaobkjcjodffaaGreatDoorTG2
import Derived.Test.YtkaobkjcjodffaaGreatDoorTK13
import Derived.Test.YtkaobkjcjodffaaGreatDoorSPwCopy
import Derived.Test.YtkaobkjcjodffaaGreatDoorSPwApX
set_option maxHeartbeats 20000000
set_option maxRecDepth 100000
namespace Go.Proofs.YtkaobkjcjodffaaGreatDoor
open Go Go.Pw
section
def rvMeet (l : List TPfx) (i : Nat) (p : TPfx) : Bool := !((l.take i).any (rmeet p))
def hit (a : Int) (e : TEdge) : Bool := !e.planned && rcont e.pfx a
def ownA (t : Topo) (a : Int) : Int := firstAt (hit a) t.edges
def Own (a : Int) (l : List TEdge) (k : Nat) (n last : Int) : Prop :=
 (n = 0 ∧ last = -1 ∧ ∀ (j : Nat) x, j < k → l[j]? = some x → hit a x = false) ∨ (∃ i : Nat, n = 1 ∧ last = i ∧ i < k ∧ ∃ x, l[i]? = some x ∧ hit a x = true ∧ ∀ (j : Nat) y, j < i → l[j]? = some y → hit a y = false)
theorem Own.fin {a : Int} {t : Topo} {n last : Int} (h : Own a t.edges t.edges.length n last) : 0 ≤ n ∧ n ≤ 1 ∧ ownA t a = last := by
 rcases h with ⟨e1, e2, h1⟩ | ⟨i, e1, e2, hi, y, hy, h1, h2⟩
 ·refine ⟨by omega, by omega, ?_⟩
  rw [e2]
  exact firstAt_miss fun j x hx => h1 j x (List.getElem?_eq_some_iff.1 hx).1 hx
 ·refine ⟨by omega, by omega, ?_⟩
  rw [e2]
  obtain ⟨hl, rfl⟩ := List.getElem?_eq_some_iff.1 hy
  exact firstAt_hit hl h1 h2
theorem Own.bound {a : Int} {l : List TEdge} {k : Nat} {n last : Int} (h : Own a l k n last) : 0 ≤ n ∧ n ≤ 1 := by
 rcases h with ⟨e1, _⟩ | ⟨i, e1, _⟩ <;> omega
structure RV (t : Topo) : Prop where
 d1 : 1 ≤ t.devs.length
 d2 : t.devs.length ≤ 12
 l2 : t.links.length ≤ 24
 e2 : t.edges.length ≤ 12
 p2 : t.pools.length ≤ 8
 tol : 0 ≤ t.tol ∧ t.tol ≤ 2
 devI : ∀ (i : Nat) d, t.devs[i]? = some d → vname d.name = true ∧ tDevice t d.name = (i : Int) ∧ 0 ≤ d.cap ∧ d.cap ≤ 4096 ∧ (d.cls = [] ∨ vname d.cls = true)
 link : ∀ l ∈ t.links, 0 ≤ l.a ∧ l.a < l.b ∧ l.b < t.devs.length ∧ 1 ≤ l.cost ∧ l.cost ≤ 1000
 edgeI : ∀ (i : Nat) e, t.edges[i]? = some e → (vname e.name = true ∧ vname e.zone = true) ∧ tEdge t e.name = (i : Int) ∧ (0 ≤ e.dev ∧ e.dev < t.devs.length) ∧ 1 ≤ e.pfx.bits ∧ rvalid e.pfx = true ∧ (e.planned = true → e.pfx.addr = 0)
 fix : allI (rvMeet (fixed t.edges)) (fixed t.edges) = true
 pool : ∀ (i : Nat) p, t.pools[i]? = some p → rvalid p = true ∧ (t.pools.take i).any (rmeet p) = false
theorem RV.dev {t : Topo} (h : RV t) {d : TDev} (hd : d ∈ t.devs) : vname d.name = true ∧ (0 ≤ d.cap ∧ d.cap ≤ 4096) ∧ (d.cls = [] ∨ vname d.cls = true) := by
 obtain ⟨i, hi⟩ := List.mem_iff_getElem?.1 hd
 obtain ⟨h1, _, h2, h3, h4⟩ := h.devI i d hi
 exact ⟨h1, ⟨h2, h3⟩, h4⟩
theorem RV.edge {t : Topo} (h : RV t) {e : TEdge} (he : e ∈ t.edges) : (vname e.name = true ∧ vname e.zone = true) ∧ (0 ≤ e.dev ∧ e.dev < t.devs.length) ∧ 1 ≤ e.pfx.bits ∧ rvalid e.pfx = true ∧ (e.planned = true → e.pfx.addr = 0) := by
 obtain ⟨i, hi⟩ := List.mem_iff_getElem?.1 he
 obtain ⟨h1, _, h2⟩ := h.edgeI i e hi
 exact ⟨h1, h2⟩
theorem rvalid_b {p : TPfx} (h : rvalid p = true) : 0 ≤ p.bits ∧ p.bits ≤ 32 := rvalid_bits h
theorem vname_len {s : Str} (h : vname s = true) : s.length ≤ 24 := by
 rw [vname_eq] at h
 simp only [nmHead, Bool.and_eq_true, Bool.not_eq_true', Bool.or_eq_false_iff, decide_eq_false_iff_not] at h
 have := h.1.1.2
 omega
def dev0 : TDev := ⟨[], 0, false, false, []⟩
def nm (t : Topo) (i : Int) : Str := (t.devs.getD i.toNat dev0).name
def ln (w : List Str) : TLine := ⟨0, w⟩
theorem pfxS_len (p : TPfx) (h : 0 ≤ p.bits ∧ p.bits ≤ 32) : (pfxS p).length ≤ 24 := by
 have h1 := addrS_len p.addr.toNat
 have h2 : (dec p.bits.toNat).length ≤ 4 := dec_small (by omega)
 simp only [pfxS, List.length_append, List.length_singleton]
 omega
theorem dig_toNat (d : Nat) (h : d < 10) : (UInt8.ofNat (48 + d)).toNat = 48 + d := by
 rw [UInt8.toNat_ofNat', Nat.mod_eq_of_lt (by omega)]
theorem dbad_dig (d : Nat) (h : d < 10) : dbad (UInt8.ofNat (48 + d)) = false := by
 unfold dbad
 rw [dig_toNat d h]
 simp
 omega
theorem dec_dig (n : Nat) : (dec n).any dbad = false := by
 induction n using Nat.strongRecOn with
 | _ n ih =>
  by_cases h : n < 10
  ·rw [dec_lt h, List.any_cons, dbad_dig n h]; rfl
  ·rw [dec_ge h, List.any_append, ih (n / 10) (by omega), List.any_cons, dbad_dig (n % 10) (by omega)]; rfl
theorem dec_ne (n : Nat) : dec n ≠ [] := by
 by_cases h : n < 10
 ·rw [dec_lt h]; simp
 ·rw [dec_ge h]; simp
def gbyte (c : UInt8) : Bool := isWord c && (noHash c && (pbyte c && !(c == 10)))
structure GW (s : Str) : Prop where
 ne : s ≠ []
 all : ∀ c ∈ s, gbyte c = true
def spanS (r : TRng) : Str := if r.lo = r.hi then dec r.lo.toNat else (dec r.lo.toNat ++ [45]) ++ dec r.hi.toNat
def itemW (x : TItem) (g : Bool) : List Str :=
 if x.kind = 3 ∧ g = true then [[103, 114, 111, 117, 112], x.name] else if x.kind = 3 then [[115, 101, 114, 118, 105, 99, 101], x.name] else if x.kind = 1 then [[122, 111, 110, 101], x.name] else if x.kind = 2 then [[115, 117, 98, 110, 101, 116], pfxS x.pfx] else
 if x.proto = 6 then [[116, 99, 112], spanS x.ports] else if x.proto = 17 then [[117, 100, 112], spanS x.ports] else if x.proto = 1 then [[105, 99, 109, 112]] else [[112, 114, 111, 116, 111], dec x.proto.toNat]
def itemsN (l : List TItem) (g : Bool) : Nat → List Str
 | 0 => []
 | k + 1 => (itemsN l g k ++ if 0 < k then [[44]] else []) ++ itemW (l.getD k default) g
def itemsW (l : List TItem) (g : Bool) : List Str := itemsN l g l.length
def stmW0 (s : TStm) : List Str := [if s.permit then [97, 108, 108, 111, 119] else [100, 101, 110, 121], nameS s.src, [45, 62], nameS s.dst, nameS s.service]
def stmW1 (s : TStm) : List Str := stmW0 s ++ if s.excepted then [[101, 120, 99, 101, 112, 116], nameS s.exSrc, [45, 62], nameS s.exDst] else []
def stmW2 (s : TStm) : List Str := stmW1 s ++ if s.cls = [] then [] else [[118, 105, 97], s.cls]
def stmW3 (s : TStm) : List Str := stmW2 s ++ if s.during = [] then [] else [[100, 117, 114, 105, 110, 103], s.during]
def stmW (s : TStm) : List Str := stmW3 s ++ if s.prio = 0 then [] else [[112, 114, 105, 111, 114, 105, 116, 121], dec s.prio.toNat]
def pubW (p : TPub) : List Str := [[112, 117, 98, 108, 105, 115, 104], addrS p.addr.toNat, if p.proto = 17 then [117, 100, 112] else [116, 99, 112], dec p.port.toNat, [97, 116], p.edge, [116, 111], addrS p.real.toNat, dec p.realPort.toNat]
def hidW (h : THid) : List Str := [[104, 105, 100, 101], h.group, [97, 116], h.edge, [98, 101, 104, 105, 110, 100], addrS h.addr.toNat, [112, 111, 114, 116, 115], spanS h.ports]
def defW (g : Bool) (d : TDef) : List Str := [if g then [103, 114, 111, 117, 112] else [115, 101, 114, 118, 105, 99, 101], d.name, [61]] ++ itemsW d.items g
def winW (w : TWin) : List Str := [[119, 105, 110, 100, 111, 119], w.name, [61]] ++ wFormat w.active
def lGroups (i : TInt) : List TLine := i.groups.map fun d => ln (defW true d)
def lServices (i : TInt) : List TLine := i.services.map fun d => ln (defW false d)
def lWindows (i : TInt) : List TLine := i.windows.map fun d => ln (winW d)
def lStms (i : TInt) : List TLine := i.stms.map fun d => ln (stmW d)
def lPubs (i : TInt) : List TLine := i.pubs.map fun d => ln (pubW d)
def lHids (i : TInt) : List TLine := i.hids.map fun d => ln (hidW d)
def iLines (i : TInt) : List TLine := ((((lGroups i ++ lServices i) ++ lWindows i) ++ lStms i) ++ lPubs i) ++ lHids i
def iFormat (i : TInt) : Str × Int := if iValid i then (textS (iLines i), 0) else ([], 1)
structure WLe2 (w : List Str) : Prop where
 len : w.length ≤ 60
 each : ∀ s ∈ w, s.length ≤ 48
theorem joinW_len2 : ∀ (w : List Str) (k : Nat), (∀ s ∈ w, s.length ≤ 48) → (joinW k w).length ≤ w.length * 49
 | [], k, _ => by cases k <;> simp [joinW]
 | x :: w, 0, h => by
  have := joinW_len2 w 1 fun s hs => h s (List.mem_cons_of_mem _ hs)
  have := h x (List.mem_cons_self ..)
  simp only [joinW, List.length_append, List.length_cons]
  omega
 | x :: w, k + 1, h => by
  have := joinW_len2 w (k + 2) fun s hs => h s (List.mem_cons_of_mem _ hs)
  have := h x (List.mem_cons_self ..)
  simp only [joinW, List.length_append, List.length_cons, List.length_nil]
  omega
theorem lineS_len2 {w : List Str} (h : WLe2 w) : (lineS w).length ≤ 2941 := by
 have h1 := joinW_len2 w 0 h.each
 have h2 := h.len
 have : w.length * 49 ≤ 60 * 49 := Nat.mul_le_mul_right _ h2
 simp only [lineS, List.length_append, List.length_cons, List.length_nil]
 omega
theorem textS_len2 : ∀ (l : List TLine), (∀ x ∈ l, WLe2 x.words) → (textS l).length ≤ l.length * 2941
 | [], _ => Nat.zero_le _
 | x :: l, h => by
  have h1 := textS_len2 l fun y hy => h y (List.mem_cons_of_mem _ hy)
  have h2 := lineS_len2 (h x (List.mem_cons_self ..))
  have e : textS (x :: l) = lineS x.words ++ textS l := by simp [textS]
  rw [e, List.length_append, List.length_cons]
  omega
variable {Gl : Glob}
attribute [local irreducible] PW PWL OpP PCalls PWO PWT bothT
theorem dec5 {n : Int} (h : n ≤ 65535) : (dec n.toNat).length ≤ 5 := dec_len 4 n.toNat (by omega)
theorem c_number7 (n : Int) (h : 0 ≤ n ∧ n < 10000000) : PFun Tryz.prog Gl 35 [.int .i64 n] fun r => r = .str (dec n.toNat) := by
 have := c35 (Gl := Gl) 6 n.toNat (by omega) (by omega)
 rwa [Int.toNat_of_nonneg h.1] at this
instance iNumber7 (n : Int) : ConF Tryz.prog Gl 35 [.int .i64 n] (0 ≤ n ∧ n < 10000000) (.str (dec n.toNat)) := ⟨e35, fun h => c_number7 n h⟩
theorem c_faddr (a : Int) (h : 0 ≤ a ∧ a < 4294967296) : PFun Tryz.prog Gl 34 [.int .u32 a] fun r => r = .str (addrS a.toNat) := by
 have := c81 (Gl := Gl) a.toNat (by omega)
 rwa [Int.toNat_of_nonneg h.1] at this
instance iFAddr (a : Int) : ConF Tryz.prog Gl 34 [.int .u32 a] (0 ≤ a ∧ a < 4294967296) (.str (addrS a.toNat)) := ⟨e34, fun h => c_faddr a h⟩
instance iFPfx (p : TPfx) : ConF Tryz.prog Gl 81 [.agg [.int .u32 p.addr, .int .i64 p.bits]] (PfxIn p ∧ rvalid p = true) (.str (pfxS p)) := ⟨e81, fun h => c36 p h.1 h.2 (rvalid_b h.2)⟩
structure PIn2 (r : TRng) : Prop where
 l0 : 0 ≤ r.lo
 l1 : r.lo ≤ 65535
 h0 : 0 ≤ r.hi
 h1 : r.hi ≤ 65535
theorem c_span (r : TRng) (h : PIn2 r) : PFun Tryz.prog Gl 36 [eRng r] fun x => x = .str (spanS r) := by
 (refine PFun.of hT Tryz.func36 rfl fun B hD => ?_; refine pw_norm rfl ?_)
 obtain ⟨a, b, c, d⟩ := h
 have l1 := dec5 b
 have l2 := dec5 d
 unfold spanS
 (repeat' (first | (refine zDr [[0,1,2,5,6,7],[3],[4],[8],[9,10]] ?_; refine zDn ?_) | refine zS ?_ | refine zD ?_ | refine po_both ?_ ?_ | refine pwt_both ?_ ?_ | refine pwt_fork ?_ | refine pwt_lin ?_ | (refine po_test rfl rfl rfl rfl zB ?_ ?_ <;> intro hb <;> first | exact zX | refine zDn ?_) | (refine zT ?_ ?_ <;> intro h <;> first | exact zX | refine zNq ?_)))
 ·rw [if_pos h]; exact ret2 _ rfl rfl rfl
 ·rw [if_neg h]; exact ret2 _ rfl rfl rfl
instance iSpan (r : TRng) : ConF Tryz.prog Gl 36 [.agg [.int .u32 r.lo, .int .u32 r.hi]] (PIn2 r) (.str (spanS r)) := ⟨e36, fun h => c_span r h⟩
structure FItem (x : TItem) : Prop where
 pfx : x.kind = 2 → PfxIn x.pfx ∧ rvalid x.pfx = true
 ports : x.kind = 4 → x.proto = 6 ∨ x.proto = 17 → PIn2 x.ports
 proto : x.kind = 4 → 0 ≤ x.proto ∧ x.proto ≤ 255
 kind : x.kind = 1 ∨ x.kind = 2 ∨ x.kind = 3 ∨ x.kind = 4
theorem c_fItems (l : List TItem) (g : Bool) (hl : l.length ≤ 1000) (hf : ∀ x ∈ l, FItem x) : PFun Tryz.prog Gl 31 [.sl (l.map eItem), .bool g] fun r => r = .sl ((itemsW l g).map .str) := by
 (refine PFun.of hT Tryz.func31 rfl fun B hD => ?_; refine pw_norm rfl ?_)
 have hlen : ∀ k, (itemsN l g k).length ≤ 3 * k := fun k => by
  induction k with
  | zero => exact Nat.le_refl _
  | succ k ih =>
   have h1 : (itemW (l.getD k default) g).length ≤ 2 := by
    unfold itemW
    repeat' split
    all_goals exact Nat.le_of_ble_eq_true rfl
   have h2 : (if 0 < k then [[44]] else ([] : List Str)).length ≤ 1 := by split <;> decide
   simp only [itemsN, List.length_append]
   omega
 (repeat' (first | refine zS ?_ | refine zq5 ?_ | refine zq6 ?_ | (refine zT ?_ ?_ <;> intro h <;> first | exact zX | refine zNq ?_)))
 refine pw_ghost 1 ?_
 refine zNq ?_
 refine pw_for hD (fun a : Nat × Nat => [(5, .msl 1 0 0 ((itemsN l g a.1).map PV.str).length a.2), (6, .int .i64 a.1)]) (fun a => [.arr 1 ((itemsN l g a.1).map .str) a.2]) (fun a => a.1 ≤ l.length) (fun a => l.length - a.1) (0, 0) (Nat.zero_le _) 1 rfl (fun _ => rfl) zLes (fun _ => rfl) (fun _ => rfl) zLe ?_
 rintro ⟨k, cap⟩ hk
 dsimp only at hk ⊢
 have hlen := hlen k
 refine zNq ?_
 (repeat' (first | refine zS ?_ | refine zq5 ?_ | refine zq6 ?_))
 refine zT ?_ ?_ <;> intro h <;> refine zNq ?_
 ·have hkl : k < l.length := by omega
  have hx := hf _ (getD_memD hkl)
  (repeat' (first | refine zS ?_ | refine zq5 ?_ | refine zq6 ?_))
  refine pw_joinX hD (fun _ : Nat => True) (fun c => [(5, .msl 1 0 0 ((itemsN l g k ++ if 0 < k then [[44]] else []).map PV.str).length c), (15, .any), (16, .any), (17, .any), (18, .any)]) (fun c => [.arr 1 ((itemsN l g k ++ if 0 < k then [[44]] else []).map .str) c]) 1 rfl (fun _ => rfl) (fun _ => rfl) (fun _ => rfl) ?_ ?_
  ·refine zT ?_ ?_ <;> intro h1 <;> refine zNq ?_
   ·rw [if_pos (show 0 < k by omega)]
    (repeat' (first | refine zS ?_ | refine zq5 ?_ | refine zq6 ?_))
    (refine pl_append (b := 16) hT hD rfl rfl rfl rfl rfl rfl rfl rfl (.inl (Nat.zero_lt_succ _)) rfl rfl (by simp; omega) (fun cap1 _ hcap => ?_); (refine zNp ?_))
    (repeat' (first | refine zS ?_ | refine zq5 ?_ | refine zq6 ?_))
    refine ⟨cap1, trivial, ?_, ?_⟩
    all_goals simp only [List.map_append, List.length_append]
    ·(exact zLe)
    ·(exact zLes)
   ·rw [if_neg (show ¬ 0 < k by omega), List.append_nil]
    (repeat' (first | refine zS ?_ | refine zq5 ?_ | refine zq6 ?_))
    exact ⟨cap, trivial, zLe, zLes⟩
  intro c _
  have hlen2 : (itemsN l g k ++ if 0 < k then [[44]] else []).length ≤ 3 * k + 1 := by
   have : (if 0 < k then [[44]] else ([] : List Str)).length ≤ 1 := by split <;> decide
   rw [List.length_append]; omega
  have hnx : itemsN l g (k + 1) = (itemsN l g k ++ if 0 < k then [[44]] else []) ++ itemW (l.getD k default) g := rfl
  generalize (itemsN l g k ++ if 0 < k then [[44]] else []) = W at hlen2 hnx ⊢
  refine zNq ?_
  have hx3 := hx.ports
  have hx4 := hx.proto
  have hz : (l.getD k default).kind = 4 → ¬ ((l.getD k default).proto = 6 ∨ (l.getD k default).proto = 17) ∨ PIn2 (l.getD k default).ports := fun q => by
   by_cases q2 : (l.getD k default).proto = 6 ∨ (l.getD k default).proto = 17
   ·exact .inr (hx3 q q2)
   ·exact .inl q2
  unfold itemW at hnx
  have hq : (l.getD k default).kind = 1 ∨ ((l.getD k default).kind = 2 ∧ PfxIn (l.getD k default).pfx ∧ rvalid (l.getD k default).pfx = true) ∨ (l.getD k default).kind = 3 ∨ ((l.getD k default).kind = 4 ∧ PIn2 (l.getD k default).ports ∧ 0 ≤ (l.getD k default).proto ∧ (l.getD k default).proto ≤ 255) ∨ ((l.getD k default).kind = 4 ∧ ¬ ((l.getD k default).proto = 6 ∨ (l.getD k default).proto = 17) ∧ 0 ≤ (l.getD k default).proto ∧ (l.getD k default).proto ≤ 255) := by
   rcases hx.kind with q | q | q | q
   ·exact .inl q
   ·exact .inr (.inl ⟨q, hx.pfx q⟩)
   ·exact .inr (.inr (.inl q))
   ·rcases hz q with z | z
    ·exact .inr (.inr (.inr (.inr ⟨q, z, hx4 q⟩)))
    ·exact .inr (.inr (.inr (.inl ⟨q, z, hx4 q⟩)))
  clear hz hx3 hx4
  rcases hq with q | ⟨q, q1, q2⟩ | q | ⟨q, q1, q2, q3⟩ | ⟨q, q1, q2, q3⟩
  all_goals
   (repeat' (first | refine zS ?_ | refine zq5 ?_ | refine zq6 ?_ | (refine zT ?_ ?_ <;> intro h <;> first | exact zX | refine zNq ?_)))
  all_goals
   (repeat rw [if_neg (by assumption)] at hnx)
   (try rw [if_pos (by assumption)] at hnx)
   (refine pl_append (b := 16) hT hD rfl rfl rfl rfl rfl rfl rfl rfl (.inl (Nat.zero_lt_succ _)) rfl rfl (by simp; omega) (fun cap1 _ hcap => ?_); (refine zNp ?_))
   (repeat' (first | refine zS ?_ | refine zq5 ?_ | refine zq6 ?_ | (refine zT ?_ ?_ <;> intro h <;> first | exact zX | refine zNq ?_)))
   refine ⟨(k + 1, cap1), by dsimp only; omega, by dsimp only; omega, ?_, ?_⟩
   all_goals simp only [hnx, List.map_append, List.length_append]
   ·(exact zLe)
   ·(exact zLes)
 ·obtain rfl : k = l.length := by omega
  (repeat' (first | refine zS ?_ | refine zq5 ?_ | refine zq6 ?_ | (refine zT ?_ ?_ <;> intro h <;> first | exact zX | refine zNq ?_)))
  exact ret0 _ (.sl ((itemsW l g).map .str)) rfl rfl (.inr (.inr (.inr (.inl ⟨_, _, _, _, _, _, rfl, rfl, rfl, rfl, rfl⟩)))) rfl
instance iFItems (l : List TItem) (g : Bool) : ConF Tryz.prog Gl 31 [.sl (l.map eItem), .bool g] (l.length ≤ 1000 ∧ ∀ x ∈ l, FItem x) (.sl ((itemsW l g).map .str)) := ⟨e31, fun h => c_fItems l g h.1 h.2⟩
end
section
structure IIn2 (i : TInt) : Prop extends IIn i where
 pins : ∀ p ∈ i.pubs, (0 ≤ p.addr ∧ p.addr < 4294967296) ∧ 0 ≤ p.real ∧ p.real < 4294967296
 hins : ∀ h ∈ i.hids, 0 ≤ h.addr ∧ h.addr < 4294967296
structure VDef (l : List TDef) (sv : Bool) : Prop where
 len : l.length ≤ 32
 name : ∀ d ∈ l, vname d.name = true
 first : ∀ k, k < l.length → firstAt (fun x : TDef => x.name == (l.getD k default).name) l = k
 i1 : ∀ d ∈ l, 1 ≤ d.items.length
 i2 : ∀ d ∈ l, d.items.length ≤ 16
 items : ∀ d ∈ l, ∀ x ∈ d.items, vItem x sv = true
theorem vDefs_v {l : List TDef} {sv : Bool} (h : vDefs l sv = true) : VDef l sv := by
 unfold vDefs at h
 rw [Bool.and_eq_true, decide_eq_true_eq, List.all_eq_true] at h
 have hk : ∀ k, k < l.length → dOk l sv k = true := fun k hk => h.2 k (List.mem_range.2 hk)
 have hd : ∀ d ∈ l, ∃ k, k < l.length ∧ l.getD k default = d := fun d hd => by
  obtain ⟨k, hk⟩ := List.mem_iff_getElem?.1 hd
  exact ⟨k, (List.getElem?_eq_some_iff.1 hk).1, by rw [List.getD, hk]; rfl⟩
 have hf : ∀ k, k < l.length → ((vname (l.getD k default).name = true ∧ firstAt (fun x : TDef => x.name == (l.getD k default).name) l = k) ∧ 1 ≤ (l.getD k default).items.length) ∧ (l.getD k default).items.length ≤ 16 := fun k hk' => by
  have := hk k hk'
  unfold dOk dHead at this
  simp only [Bool.and_eq_true, decide_eq_true_eq] at this
  exact this.1
 refine ⟨h.1, fun d hd' => ?_, fun k hk' => (hf k hk').1.1.2, fun d hd' => ?_, fun d hd' => ?_, fun d hd' => ?_⟩
 ·obtain ⟨k, h1, rfl⟩ := hd d hd'; exact (hf k h1).1.1.1
 ·obtain ⟨k, h1, rfl⟩ := hd d hd'; exact (hf k h1).1.2
 ·obtain ⟨k, h1, rfl⟩ := hd d hd'; exact (hf k h1).2
 ·obtain ⟨k, h1, rfl⟩ := hd d hd'
  have := hk k h1
  unfold dOk at this
  rw [Bool.and_eq_true, List.all_eq_true] at this
  exact this.2
structure IV (i : TInt) : Prop where
 gs : VDef i.groups false
 ss : VDef i.services true
 wl : i.windows.length ≤ 32
 sl : i.stms.length ≤ 64
 pl : i.pubs.length ≤ 16
 hl : i.hids.length ≤ 8
 wname : ∀ w ∈ i.windows, vname w.name = true
 wfirst : ∀ k, k < i.windows.length → firstAt (fun x : TWin => x.name == (i.windows.getD k default).name) i.windows = k
 wok : ∀ w ∈ i.windows, wOkB w.active = true
 stms : ∀ s ∈ i.stms, vStm s = true
 pubs : ∀ p ∈ i.pubs, vPub p = true
 hids : ∀ h ∈ i.hids, vHid h = true
theorem iValid_v {i : TInt} (h : iValid i = true) : IV i := by
 unfold iValid at h
 simp only [Bool.and_eq_true, decide_eq_true_eq, List.all_eq_true] at h
 obtain ⟨⟨⟨⟨⟨⟨a1, a2⟩, a3⟩, a4⟩, a5⟩, a6⟩, ⟨⟨b1, b2⟩, b3⟩, b4⟩ := h
 have hd : ∀ d ∈ i.windows, ∃ k, k < i.windows.length ∧ i.windows.getD k default = d := fun d hd => by
  obtain ⟨k, hk⟩ := List.mem_iff_getElem?.1 hd
  exact ⟨k, (List.getElem?_eq_some_iff.1 hk).1, by rw [List.getD, hk]; rfl⟩
 have hw : ∀ k, k < i.windows.length → (vname (i.windows.getD k default).name = true ∧ firstAt (fun x : TWin => x.name == (i.windows.getD k default).name) i.windows = k) ∧ wOkB (i.windows.getD k default).active = true := fun k hk => by
  have := b1 k (List.mem_range.2 hk)
  unfold wWin at this
  simpa only [Bool.and_eq_true, decide_eq_true_eq] using this
 refine ⟨vDefs_v a1, vDefs_v a2, a3, a4, a5, a6, fun d hd' => ?_, fun k hk => (hw k hk).1.2, fun d hd' => ?_, b2, b3, b4⟩
 ·obtain ⟨k, h1, rfl⟩ := hd d hd'; exact (hw k h1).1.1
 ·obtain ⟨k, h1, rfl⟩ := hd d hd'; exact (hw k h1).2
theorem vItem_f {x : TItem} {sv : Bool} (h : vItem x sv = true) (hi : ItIn x) : FItem x := by
 unfold vItem at h
 split at h
 ·rename_i k
  exact ⟨fun q => by omega, fun q => by omega, fun q => by omega, .inl k⟩
 split at h
 ·rename_i k
  rw [Bool.and_eq_true, Bool.and_eq_true, valid_eq x.pfx hi.addr] at h
  exact ⟨fun _ => ⟨hi.addr, h.1.2⟩, fun q => by omega, fun q => by omega, .inr (.inl k)⟩
 split at h
 ·rename_i k
  exact ⟨fun q => by omega, fun q => by omega, fun q => by omega, .inr (.inr (.inl k))⟩
 split at h
 ·rename_i k
  rw [Bool.and_eq_true, Bool.and_eq_true] at h
  have hp := h.1.2
  have hl := hi.lo
  unfold vPorts at hp
  refine ⟨fun q => by omega, fun _ q => ?_, fun _ => ?_, .inr (.inr (.inr k))⟩
  ·rw [if_pos q, Bool.and_eq_true, decide_eq_true_eq, decide_eq_true_eq] at hp
   exact ⟨hl, by omega, by omega, hp.2⟩
  ·split at hp
   ·omega
   split at hp
   ·omega
   simp only [Bool.and_eq_true, decide_eq_true_eq] at hp
   omega
 ·cases h
theorem stm_prio {s : TStm} (h : vStm s = true) : 0 ≤ s.prio ∧ s.prio ≤ 1000 := by
 unfold vStm stmRest at h
 simp only [Bool.and_eq_true, decide_eq_true_eq] at h
 exact ⟨h.2.1.2, h.2.2⟩
theorem pub_f {p : TPub} (h : vPub p = true) : (p.proto = 6 ∨ p.proto = 17) ∧ (0 ≤ p.port ∧ p.port ≤ 65535) ∧ (0 ≤ p.realPort ∧ p.realPort ≤ 65535) ∧ vname p.edge = true := by
 unfold vPub at h
 simp only [Bool.and_eq_true, Bool.or_eq_true, decide_eq_true_eq, beq_iff_eq] at h
 obtain ⟨⟨⟨a, b⟩, c⟩, d⟩ := h
 exact ⟨a, b, c, d⟩
theorem hid_f {x : THid} (h : vHid x = true) : vname x.group = true ∧ vname x.edge = true ∧ 1024 ≤ x.ports.lo ∧ x.ports.lo ≤ x.ports.hi ∧ x.ports.hi ≤ 65535 := by
 unfold vHid at h
 simp only [Bool.and_eq_true, decide_eq_true_eq] at h
 obtain ⟨⟨a, b⟩, ⟨c, d⟩, e⟩ := h
 exact ⟨a, b, c, d, e⟩
variable {Gl : Glob}
attribute [local irreducible] PW PWL OpP PCalls PWO PWT bothT
structure SpI (n : Nat) (t : TInt) : Prop where
 groups : t.groups.length ≤ n
 services : t.services.length ≤ n
 windows : t.windows.length ≤ n
 stms : t.stms.length ≤ n
 pubs : t.pubs.length ≤ n
 hids : t.hids.length ≤ n
 gitems : ∀ d ∈ t.groups, d.items.length ≤ n ∧ ∀ x ∈ d.items, ItIn x
 sitems : ∀ d ∈ t.services, d.items.length ≤ n ∧ ∀ x ∈ d.items, ItIn x
 active : ∀ d ∈ t.windows, d.active.length ≤ n ∧ ∀ r ∈ d.active, RIn r
 pins : ∀ p ∈ t.pubs, (0 ≤ p.addr ∧ p.addr < 4294967296) ∧ 0 ≤ p.real ∧ p.real < 4294967296
 hins : ∀ h ∈ t.hids, 0 ≤ h.addr ∧ h.addr < 4294967296
theorem SpI.big {n : Nat} {t : TInt} (h : SpI n t) (hn : n < 100000) : IBig t := by
 have h1 := h.groups
 have h2 := h.services
 have h3 := h.windows
 have h4 := h.stms
 have h5 := h.pubs
 have h6 := h.hids
 refine ⟨by omega, by omega, by omega, by omega, by omega, by omega, fun d hd => ?_, fun d hd => ?_, fun d hd => ?_⟩
 ·have := (h.gitems d hd).1; omega
 ·have := (h.sitems d hd).1; omega
 ·have := (h.active d hd).1; omega
theorem SpI.iin {n : Nat} {t : TInt} (h : SpI n t) (hn : n < 100000) : IIn2 t :=
 ⟨⟨fun d hd => (h.gitems d hd).2, fun d hd => (h.sitems d hd).2, fun d hd => ⟨by have := (h.active d hd).1; omega, (h.active d hd).2⟩⟩, h.pins, h.hins⟩
theorem SpI.mono {n m : Nat} {t : TInt} (h : SpI n t) (hn : n ≤ m) : SpI m t :=
 ⟨Nat.le_trans h.groups hn, Nat.le_trans h.services hn, Nat.le_trans h.windows hn, Nat.le_trans h.stms hn, Nat.le_trans h.pubs hn, Nat.le_trans h.hids hn, fun d hd => ⟨Nat.le_trans (h.gitems d hd).1 hn, (h.gitems d hd).2⟩, fun d hd => ⟨Nat.le_trans (h.sitems d hd).1 hn, (h.sitems d hd).2⟩, fun d hd => ⟨Nat.le_trans (h.active d hd).1 hn, (h.active d hd).2⟩, h.pins, h.hins⟩
theorem mem_snocS {α : Type} {Q : α → Prop} {l : List α} {x : α} (a : ∀ d ∈ l, Q d) (b : Q x) : ∀ d ∈ l ++ [x], Q d := fun d hd => by
 rcases List.mem_append.1 hd with hd | hd
 ·exact a d hd
 ·rw [List.mem_singleton.1 hd]; exact b
theorem len_snoc {α : Type} {l : List α} {x : α} {n : Nat} (h : l.length ≤ n) : (l ++ [x]).length ≤ n + 3 := by rw [List.length_append, List.length_singleton]; omega
theorem mem_set {α : Type} {Q : α → Prop} {l : List α} {x : α} {k : Nat} (a : ∀ d ∈ l, Q d) (b : Q x) : ∀ d ∈ l.set k x, Q d := fun d hd => by
 rcases List.mem_or_eq_of_mem_set hd with hd | hd
 ·exact a d hd
 ·rw [hd]; exact b
theorem SpI.addG {n : Nat} {t : TInt} (h : SpI n t) {d : TDef} (hd : d.items.length ≤ 1 ∧ ∀ x ∈ d.items, ItIn x) : SpI (n + 3) { t with groups := t.groups ++ [d] } :=
 { (h.mono (Nat.le_add_right n 3)) with groups := len_snoc h.groups, gitems := mem_snocS (h.mono (Nat.le_add_right n 3)).gitems ⟨by omega, hd.2⟩ }
theorem SpI.addS {n : Nat} {t : TInt} (h : SpI n t) {d : TDef} (hd : d.items.length ≤ 1 ∧ ∀ x ∈ d.items, ItIn x) : SpI (n + 3) { t with services := t.services ++ [d] } :=
 { (h.mono (Nat.le_add_right n 3)) with services := len_snoc h.services, sitems := mem_snocS (h.mono (Nat.le_add_right n 3)).sitems ⟨by omega, hd.2⟩ }
theorem SpI.addW {n : Nat} {t : TInt} (h : SpI n t) {d : TWin} (hd : d.active.length ≤ 3 ∧ ∀ x ∈ d.active, RIn x) : SpI (n + 3) { t with windows := t.windows ++ [d] } :=
 { (h.mono (Nat.le_add_right n 3)) with windows := len_snoc h.windows, active := mem_snocS (h.mono (Nat.le_add_right n 3)).active ⟨by omega, hd.2⟩ }
theorem SpI.addT {n : Nat} {t : TInt} (h : SpI n t) (s : TStm) : SpI (n + 3) { t with stms := t.stms ++ [s] } :=
 { (h.mono (Nat.le_add_right n 3)) with stms := len_snoc h.stms }
theorem SpI.setT {n : Nat} {t : TInt} (h : SpI n t) (k : Nat) (s : TStm) : SpI (n + 3) { t with stms := t.stms.set k s } :=
 { (h.mono (Nat.le_add_right n 3)) with stms := by have := h.stms; show (t.stms.set k s).length ≤ _; rw [List.length_set]; omega }
theorem SpI.dropT {n : Nat} {t : TInt} (h : SpI n t) (k : Nat) : SpI (n + 3) { t with stms := t.stms.drop k } :=
 { (h.mono (Nat.le_add_right n 3)) with stms := by have := h.stms; show (t.stms.drop k).length ≤ _; rw [List.length_drop]; omega }
theorem SpI.addP {n : Nat} {t : TInt} (h : SpI n t) {p : TPub} (hp : (0 ≤ p.addr ∧ p.addr < 4294967296) ∧ 0 ≤ p.real ∧ p.real < 4294967296) : SpI (n + 3) { t with pubs := t.pubs ++ [p] } :=
 { (h.mono (Nat.le_add_right n 3)) with pubs := len_snoc h.pubs, pins := mem_snocS h.pins hp }
theorem SpI.addH {n : Nat} {t : TInt} (h : SpI n t) {p : THid} (hp : 0 ≤ p.addr ∧ p.addr < 4294967296) : SpI (n + 3) { t with hids := t.hids ++ [p] } :=
 { (h.mono (Nat.le_add_right n 3)) with hids := len_snoc h.hids, hins := mem_snocS h.hins hp }
theorem SpI.setG {n : Nat} {t : TInt} (h : SpI n t) (k : Nat) {d : TDef} (hd : d.items.length ≤ n + 3 ∧ ∀ x ∈ d.items, ItIn x) : SpI (n + 3) { t with groups := t.groups.set k d } :=
 { (h.mono (Nat.le_add_right n 3)) with groups := (by have := h.groups; show (t.groups.set k d).length ≤ _; rw [List.length_set]; omega), gitems := mem_set (h.mono (Nat.le_add_right n 3)).gitems hd }
def sst (l : List Int) (j : Nat) (i : TInt) (n : Nat) (og oi : PObj) (c : KCaps) : List PObj :=
 [tape l j, .dead, zI, .dead, .dead, .dead, .dead, .dead, .dead, .dead, og, oi, .arr 2 (i.services.map eDef) c.2.1, .arr 2 (i.windows.map eWin) c.2.2.1, .dead, .arr 10 (i.stms.map eStm) c.2.2.2.1, .dead, .arr 6 (i.pubs.map ePub) c.2.2.2.2.1, .dead, .arr 5 (i.hids.map eHid) c.2.2.2.2.2,
  .box [.msl 2 10 0 n c.1, .msl 2 12 0 (i.services.map eDef).length c.2.1, .msl 2 13 0 (i.windows.map eWin).length c.2.2.1, .msl 10 15 0 (i.stms.map eStm).length c.2.2.2.1, .msl 6 17 0 (i.pubs.map ePub).length c.2.2.2.2.1, .msl 5 19 0 (i.hids.map eHid).length c.2.2.2.2.2]]
def senv : List PV := [.ptr 0 0, .any, .any, .any, .ptr 2 0, .ptr 20 0] ++ List.replicate 266 .any
def sQ (l : List Int) (n : Nat) : Post := retF tys Tryz.f26.results.toList 1 fun r s => ∃ i' : Nat, (∃ t : TInt, SpI (n + 3) t ∧ r = eIntent t) ∧ i' ≤ l.length ∧ s = [tape l i']
theorem nil_len {g : List TDef} {d : TDef} {x : PV} (_ : 0 < g.length) : ((g.set 0 d).map eDef).length = ((g.map eDef).set 0 x).length := by simp
theorem nil_cells {g : List TDef} {d : TDef} : ∀ y ∈ (g.set 0 d).map eDef, y.cells.length = 2 := fun y hy => by
 obtain ⟨z, _, rfl⟩ := List.mem_map.1 hy
 rfl
theorem nil_less {g : List TDef} (h : 0 < g.length) : ∀ (n : Nat) y, ((g.set 0 { g.getD 0 default with items := [] }).map eDef)[n]? = some y → ∃ x, ((g.map eDef).set 0 (.agg [.str (g.getD 0 default).name, .nilsl]))[n]? = some x ∧ ∀ (j : Nat) d, y.cells[j]? = some d → ∃ c, x.cells[j]? = some c ∧ (c = d ∨ c = .nilsl ∧ d = .sl []) := by
 match g, h with
 | d :: l, _ =>
  intro n y hy
  cases n with
  | zero =>
   cases hy
   refine ⟨_, rfl, fun j e he => ?_⟩
   match j, he with
   | 0, he => exact ⟨_, rfl, .inl (Option.some.inj he)⟩
   | 1, he => exact ⟨_, rfl, .inr ⟨rfl, (Option.some.inj he).symm⟩⟩
   | _ + 2, he => cases he
  | succ n => exact ⟨y, hy, fun j e he => ⟨e, he, .inl rfl⟩⟩
def SpoilAt (Gl : Glob) (l : List Int) (k : Int) : Prop := ∀ (j : Nat) (_ : j ≤ l.length) (i : TInt) (n : Nat) (_ : n < 90000) (_ : SpI n i) (c : KCaps) (B : Base) (j0 : Nat) (_ : ∀ k, B.D k = dOf [tape l j0] k) (_ : nxV l j 14 = k),
 PW Tryz.prog Gl B (tlC 2 (codeOf Tryz.f26)) senv (sst l j i (i.groups.map eDef).length (.arr 2 (i.groups.map eDef) c.1) .dead c) (sQ l n)
def spL1 : List Str := [[103, 49], [97, 110, 121], [104]]
def spL2 : List Str := [[104], [103, 49], [110, 111, 119, 104, 101, 114, 101]]
def spL3 : List Str := [[119, 101, 98], [115]]
def spP1 : List Int := [6, 1, 256, -1, 50]
def spL4 : List Str := [[115], [119, 101, 98], [110, 111, 119, 104, 101, 114, 101]]
def spL5 : List Str := [[119, 111, 114, 107], [119]]
def spL6 : List Str := [([] : Str), [105, 112, 115], [97, 110, 121]]
def spL7 : List Str := [([] : Str), [119, 111, 114, 107], [110, 101, 118, 101, 114]]
def spL8 : List Str := [[110, 111, 119, 104, 101, 114, 101], [105, 112, 115], [100, 108, 112]]
def spP2 : List Int := [6, 17, 1]
def spL9 : List Str := [[101, 49], [101, 50], [110, 111, 119, 104, 101, 114, 101]]
def spL10 : List Str := [[103, 49], [110, 111, 119, 104, 101, 114, 101], ([] : Str)]
structure ITy (t : TInt) : Prop where
 lens : (t.groups.length ≤ 140737488355328 ∧ t.services.length ≤ 140737488355328 ∧ t.windows.length ≤ 140737488355328) ∧ t.stms.length ≤ 140737488355328 ∧ t.pubs.length ≤ 140737488355328 ∧ t.hids.length ≤ 140737488355328
 gitems : ∀ d ∈ t.groups, d.items.length ≤ 140737488355328 ∧ ∀ x ∈ d.items, ItIn x
 sitems : ∀ d ∈ t.services, d.items.length ≤ 140737488355328 ∧ ∀ x ∈ d.items, ItIn x
 active : ∀ d ∈ t.windows, d.active.length ≤ 140737488355328 ∧ ∀ r ∈ d.active, RIn r
 pins : ∀ p ∈ t.pubs, (0 ≤ p.addr ∧ p.addr < 4294967296) ∧ 0 ≤ p.real ∧ p.real < 4294967296
 hins : ∀ h ∈ t.hids, 0 ≤ h.addr ∧ h.addr < 4294967296
theorem take_allH {α : Type} [Inhabited α] {Q : α → Prop} {g : List α} {k : Nat} (hlt : k < g.length) (h : ∀ d ∈ g.take k, Q d) (hk : Q (g.getD k default)) : ∀ d ∈ g.take (k + 1), Q d := fun d hd => by
 rw [List.take_succ_eq_append_getElem hlt] at hd
 rcases List.mem_append.1 hd with hd | hd
 ·exact h d hd
 ·rw [List.getD, List.getElem?_eq_getElem hlt] at hk
  rw [List.mem_singleton.1 hd]
  exact hk
theorem c_huge (x : TInt) (hx : ITy x) : PFun Tryz.prog Gl 27 [eIntent x] fun r => ∃ b : Bool, r = .bool b ∧ (b = false → SpI 100 x) := by
 have l1 : (x.groups.map eDef).length = x.groups.length := List.length_map ..
 have l2 : (x.services.map eDef).length = x.services.length := List.length_map ..
 have l3 : (x.windows.map eWin).length = x.windows.length := List.length_map ..
 have l4 : (x.stms.map eStm).length = x.stms.length := List.length_map ..
 have l5 : (x.pubs.map ePub).length = x.pubs.length := List.length_map ..
 have l6 : (x.hids.map eHid).length = x.hids.length := List.length_map ..
 obtain ⟨⟨b1, b2, b3⟩, b4, b5, b6⟩ := hx.lens
 (refine PFun.of hT Tryz.func27 rfl fun B hD => ?_; refine pw_norm rfl ?_)
 (repeat' (first | refine zS ?_ | refine zq5 ?_ | refine zq6 ?_))
 refine zT ?_ ?_ <;> intro h0 <;> refine zNq ?_
 ·(repeat' (first | refine zS ?_ | refine zq5 ?_ | refine zq6 ?_))
  exact ret2 _ rfl ⟨true, rfl, fun h => by cases h⟩ rfl
 ·rw [l1, l2, l3, l4, l5, l6] at *
  have hs : (x.groups.length : Int) + x.services.length + x.windows.length + x.stms.length + x.pubs.length + x.hids.length ≤ 14 ∧ x.stms.length ≤ 4 := by omega
  generalize hv0 : (x.groups.length : Int) + x.services.length + x.windows.length + x.stms.length + x.pubs.length + x.hids.length = v0 at *
  have hp0 : 0 ≤ v0 := by omega
  (repeat' (first | refine zS ?_ | refine zq5 ?_ | refine zq6 ?_))
  refine zNq ?_
  refine pw_for hD (fun a : Nat × Int => [(3, .int .i64 a.2), (4, .int .i64 a.1)]) (fun _ => [.box (eIntent x).cells]) (fun a => a.1 ≤ x.groups.length ∧ (v0 ≤ a.2 ∧ a.2 ≤ v0 + a.1 * 140737488355328) ∧ ∀ d ∈ x.groups.take a.1, (d.items.length : Int) ≤ a.2) (fun a => x.groups.length - a.1) (0, v0) ⟨Nat.zero_le _, ⟨by dsimp only; omega, by dsimp only; omega⟩, fun d hd => by simp at hd⟩ 1 rfl (fun _ => rfl) zLes (fun _ => rfl) (fun _ => rfl) zLe ?_
  rintro ⟨k, v⟩ ⟨hk, hv, hm⟩
  dsimp only at hk hv hm ⊢
  refine zNq ?_
  (repeat' (first | refine zS ?_ | refine zq5 ?_ | refine zq6 ?_))
  refine zT ?_ ?_ <;> intro h <;> refine zNq ?_
  ·have hlt : k < x.groups.length := by omega
   have hid := (hx.gitems _ (getD_memD hlt)).1
   have hml : ((x.groups.getD k default).items.map eItem).length = (x.groups.getD k default).items.length := List.length_map ..
   have hkm : (k : Int) * 140737488355328 ≤ 14 * 140737488355328 := by omega
   (repeat' (first | refine zS ?_ | refine zq5 ?_ | refine zq6 ?_))
   refine ⟨(k + 1, v + (x.groups.getD k default).items.length), ⟨hlt, ⟨by dsimp only; omega, by dsimp only; omega⟩, take_allH hlt (fun d hd => by have := hm d hd; dsimp only; omega) (by dsimp only; omega)⟩, by dsimp only; omega, ?_, zLes⟩
   (exact zLe)
  ·obtain rfl : k = x.groups.length := by omega
   rw [List.take_length] at hm
   have g1 := hm
   generalize v = v1 at *
   clear hm
   (repeat' (first | refine zS ?_ | refine zq5 ?_ | refine zq6 ?_))
   refine zNq ?_
   refine pw_for hD (fun a : Nat × Int => [(3, .int .i64 a.2), (5, .int .i64 a.1)]) (fun _ => [.box (eIntent x).cells]) (fun a => a.1 ≤ x.services.length ∧ (v1 ≤ a.2 ∧ a.2 ≤ v1 + a.1 * 140737488355328) ∧ ∀ d ∈ x.services.take a.1, (d.items.length : Int) ≤ a.2) (fun a => x.services.length - a.1) (0, v1) ⟨Nat.zero_le _, ⟨by dsimp only; omega, by dsimp only; omega⟩, fun d hd => by simp at hd⟩ 1 rfl (fun _ => rfl) zLes (fun _ => rfl) (fun _ => rfl) zLe ?_
   rintro ⟨k, v⟩ ⟨hk, hv, hm⟩
   dsimp only at hk hv hm ⊢
   refine zNq ?_
   (repeat' (first | refine zS ?_ | refine zq5 ?_ | refine zq6 ?_))
   refine zT ?_ ?_ <;> intro h <;> refine zNq ?_
   ·have hlt : k < x.services.length := by omega
    have hid := (hx.sitems _ (getD_memD hlt)).1
    have hml : ((x.services.getD k default).items.map eItem).length = (x.services.getD k default).items.length := List.length_map ..
    have hkm : (k : Int) * 140737488355328 ≤ 14 * 140737488355328 := by omega
    (repeat' (first | refine zS ?_ | refine zq5 ?_ | refine zq6 ?_))
    refine ⟨(k + 1, v + (x.services.getD k default).items.length), ⟨hlt, ⟨by dsimp only; omega, by dsimp only; omega⟩, take_allH hlt (fun d hd => by have := hm d hd; dsimp only; omega) (by dsimp only; omega)⟩, by dsimp only; omega, ?_, zLes⟩
    (exact zLe)
   ·obtain rfl : k = x.services.length := by omega
    rw [List.take_length] at hm
    have g2 := hm
    generalize v = v2 at *
    clear hm
    (repeat' (first | refine zS ?_ | refine zq5 ?_ | refine zq6 ?_))
    refine zNq ?_
    refine pw_for hD (fun a : Nat × Int => [(3, .int .i64 a.2), (6, .int .i64 a.1)]) (fun _ => [.box (eIntent x).cells]) (fun a => a.1 ≤ x.windows.length ∧ (v2 ≤ a.2 ∧ a.2 ≤ v2 + a.1 * 140737488355328) ∧ ∀ d ∈ x.windows.take a.1, (d.active.length : Int) ≤ a.2) (fun a => x.windows.length - a.1) (0, v2) ⟨Nat.zero_le _, ⟨by dsimp only; omega, by dsimp only; omega⟩, fun d hd => by simp at hd⟩ 1 rfl (fun _ => rfl) zLes (fun _ => rfl) (fun _ => rfl) zLe ?_
    rintro ⟨k, v⟩ ⟨hk, hv, hm⟩
    dsimp only at hk hv hm ⊢
    refine zNq ?_
    (repeat' (first | refine zS ?_ | refine zq5 ?_ | refine zq6 ?_))
    refine zT ?_ ?_ <;> intro h <;> refine zNq ?_
    ·have hlt : k < x.windows.length := by omega
     have hid := (hx.active _ (getD_memD hlt)).1
     have hml : ((x.windows.getD k default).active.map eRng).length = (x.windows.getD k default).active.length := List.length_map ..
     have hkm : (k : Int) * 140737488355328 ≤ 14 * 140737488355328 := by omega
     (repeat' (first | refine zS ?_ | refine zq5 ?_ | refine zq6 ?_))
     refine ⟨(k + 1, v + (x.windows.getD k default).active.length), ⟨hlt, ⟨by dsimp only; omega, by dsimp only; omega⟩, take_allH hlt (fun d hd => by have := hm d hd; dsimp only; omega) (by dsimp only; omega)⟩, by dsimp only; omega, ?_, zLes⟩
     (exact zLe)
    ·obtain rfl : k = x.windows.length := by omega
     rw [List.take_length] at hm
     (repeat' (first | refine zS ?_ | refine zq5 ?_ | refine zq6 ?_))
     refine ret2 _ rfl ⟨decide (v > 30), rfl, fun hb => ?_⟩ rfl
     have hb := of_decide_eq_false hb
     refine ⟨by omega, by omega, by omega, by omega, by omega, by omega, fun d hd => ⟨by have := g1 d hd; omega, (hx.gitems d hd).2⟩, fun d hd => ⟨by have := g2 d hd; omega, (hx.sitems d hd).2⟩, fun d hd => ⟨by have := hm d hd; omega, (hx.active d hd).2⟩, hx.pins, hx.hins⟩

end
end Go.Proofs.YtkaobkjcjodffaaGreatDoor