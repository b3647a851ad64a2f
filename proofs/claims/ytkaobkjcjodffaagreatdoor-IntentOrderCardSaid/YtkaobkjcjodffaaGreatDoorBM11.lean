/-
 The text of an intent: plain.
 What a valid intent is like, and how long its text is: plain.
 Plain laws of a topology's lines: the parser reads them back.
 The words of the text of a valid intent: plain.
 The lines of the text of a valid intent: plain.
-/
import Derived.Test.YtkaobkjcjodffaaGreatDoorBK28
import Derived.Test.YtkaobkjcjodffaaGreatDoorBE3
import Derived.Test.YtkaobkjcjodffaaGreatDoorAPwLend
import Derived.Test.YtkaobkjcjodffaaGreatDoorBK43F
import Derived.Test.YtkaobkjcjodffaaGreatDoorBC6
set_option maxHeartbeats 20000000
set_option maxRecDepth 100000
namespace Go.Proofs.YtkaobkjcjodffaaGreatDoor
open Go Go.Pw
section
def spanS (r : TRng) : Str := if r.lo = r.hi then dec r.lo.toNat else (dec r.lo.toNat ++ [45]) ++ dec r.hi.toNat
def itemW (x : TItem) (g : Bool) : List Str :=
 if x.kind = 3 ∧ g = true then [[103, 114, 111, 117, 112], x.name] else if x.kind = 3 then [[115, 101, 114, 118, 105, 99, 101], x.name] else if x.kind = 1 then [[122, 111, 110, 101], x.name] else if x.kind = 2 then [[115, 117, 98, 110, 101, 116], pfxS x.pfx] else
 if x.proto = 6 then [[116, 99, 112], spanS x.ports] else if x.proto = 17 then [[117, 100, 112], spanS x.ports] else if x.proto = 1 then [[105, 99, 109, 112]] else [[112, 114, 111, 116, 111], dec x.proto.toNat]
def itemsN (l : List TItem) (g : Bool) : Nat → List Str
 | 0 => []
 | k + 1 => (itemsN l g k ++ if 0 < k then [[44]] else []) ++ itemW (l.getD k default) g
def itemsW (l : List TItem) (g : Bool) : List Str := itemsN l g l.length
def stmW0 (s : TStm) : List Str := [if s.permit then [97, 108, 108, 111, 119] else [100, 101, 110, 121], nameS s.src, [45, 62], nameS s.dst, nameS s.service]
def stmW1 (s : TStm) : List Str := stmW0 s ++ if s.excepted then [[101, 120, 99, 101, 112, 116], nameS s.exSrc, [45, 62], nameS s.exDst] else []
def stmW2 (s : TStm) : List Str := stmW1 s ++ if s.cls = [] then [] else [[118, 105, 97], s.cls]
def stmW3 (s : TStm) : List Str := stmW2 s ++ if s.during = [] then [] else [[100, 117, 114, 105, 110, 103], s.during]
def stmW (s : TStm) : List Str := stmW3 s ++ if s.prio = 0 then [] else [[112, 114, 105, 111, 114, 105, 116, 121], dec s.prio.toNat]
def pubW (p : TPub) : List Str := [[112, 117, 98, 108, 105, 115, 104], addrS p.addr.toNat, if p.proto = 17 then [117, 100, 112] else [116, 99, 112], dec p.port.toNat, [97, 116], p.edge, [116, 111], addrS p.real.toNat, dec p.realPort.toNat]
def hidW (h : THid) : List Str := [[104, 105, 100, 101], h.group, [97, 116], h.edge, [98, 101, 104, 105, 110, 100], addrS h.addr.toNat, [112, 111, 114, 116, 115], spanS h.ports]
def defW (g : Bool) (d : TDef) : List Str := [if g then [103, 114, 111, 117, 112] else [115, 101, 114, 118, 105, 99, 101], d.name, [61]] ++ itemsW d.items g
def winW (w : TWin) : List Str := [[119, 105, 110, 100, 111, 119], w.name, [61]] ++ wFormat w.active
def lGroups (i : TInt) : List TLine := i.groups.map fun d => ln (defW true d)
def lServices (i : TInt) : List TLine := i.services.map fun d => ln (defW false d)
def lWindows (i : TInt) : List TLine := i.windows.map fun d => ln (winW d)
def lStms (i : TInt) : List TLine := i.stms.map fun d => ln (stmW d)
def lPubs (i : TInt) : List TLine := i.pubs.map fun d => ln (pubW d)
def lHids (i : TInt) : List TLine := i.hids.map fun d => ln (hidW d)
def iLines (i : TInt) : List TLine := ((((lGroups i ++ lServices i) ++ lWindows i) ++ lStms i) ++ lPubs i) ++ lHids i
def iFormat (i : TInt) : Str × Int := if iValid i then (textS (iLines i), 0) else ([], 1)
structure WLe2 (w : List Str) : Prop where
 len : w.length ≤ 60
 each : ∀ s ∈ w, s.length ≤ 48
theorem joinW_len2 : ∀ (w : List Str) (k : Nat), (∀ s ∈ w, s.length ≤ 48) → (joinW k w).length ≤ w.length * 49
 | [], k, _ => by cases k <;> simp [joinW]
 | x :: w, 0, h => by
  have := joinW_len2 w 1 fun s hs => h s (List.mem_cons_of_mem _ hs)
  have := h x (List.mem_cons_self ..)
  simp only [joinW, List.length_append, List.length_cons]
  omega
 | x :: w, k + 1, h => by
  have := joinW_len2 w (k + 2) fun s hs => h s (List.mem_cons_of_mem _ hs)
  have := h x (List.mem_cons_self ..)
  simp only [joinW, List.length_append, List.length_cons, List.length_nil]
  omega
theorem lineS_len2 {w : List Str} (h : WLe2 w) : (lineS w).length ≤ 2941 := by
 have h1 := joinW_len2 w 0 h.each
 have h2 := h.len
 have : w.length * 49 ≤ 60 * 49 := Nat.mul_le_mul_right _ h2
 simp only [lineS, List.length_append, List.length_cons, List.length_nil]
 omega
theorem textS_len2 : ∀ (l : List TLine), (∀ x ∈ l, WLe2 x.words) → (textS l).length ≤ l.length * 2941
 | [], _ => Nat.zero_le _
 | x :: l, h => by
  have h1 := textS_len2 l fun y hy => h y (List.mem_cons_of_mem _ hy)
  have h2 := lineS_len2 (h x (List.mem_cons_self ..))
  have e : textS (x :: l) = lineS x.words ++ textS l := by simp [textS]
  rw [e, List.length_append, List.length_cons]
  omega
variable {Gl : Glob}
attribute [local irreducible] PW PWL OpP PCalls PWO PWT bothT
theorem dec5 {n : Int} (h : n ≤ 65535) : (dec n.toNat).length ≤ 5 := dec_len 4 n.toNat (by omega)
theorem c_number7 (n : Int) (h : 0 ≤ n ∧ n < 10000000) : PFun Tryz.prog Gl 35 [.int .i64 n] fun r => r = .str (dec n.toNat) := by
 have := c35 (Gl := Gl) 6 n.toNat (by omega) (by omega)
 rwa [Int.toNat_of_nonneg h.1] at this
instance iNumber7 (n : Int) : ConF Tryz.prog Gl 35 [.int .i64 n] (0 ≤ n ∧ n < 10000000) (.str (dec n.toNat)) := ⟨e35, fun h => c_number7 n h⟩
theorem c_faddr (a : Int) (h : 0 ≤ a ∧ a < 4294967296) : PFun Tryz.prog Gl 34 [.int .u32 a] fun r => r = .str (addrS a.toNat) := by
 have := c81 (Gl := Gl) a.toNat (by omega)
 rwa [Int.toNat_of_nonneg h.1] at this
instance iFAddr (a : Int) : ConF Tryz.prog Gl 34 [.int .u32 a] (0 ≤ a ∧ a < 4294967296) (.str (addrS a.toNat)) := ⟨e34, fun h => c_faddr a h⟩
instance iFPfx (p : TPfx) : ConF Tryz.prog Gl 81 [.agg [.int .u32 p.addr, .int .i64 p.bits]] (PfxIn p ∧ rvalid p = true) (.str (pfxS p)) := ⟨e81, fun h => c36 p h.1 h.2 (rvalid_b h.2)⟩
structure PIn2 (r : TRng) : Prop where
 l0 : 0 ≤ r.lo
 l1 : r.lo ≤ 65535
 h0 : 0 ≤ r.hi
 h1 : r.hi ≤ 65535
theorem c_span (r : TRng) (h : PIn2 r) : PFun Tryz.prog Gl 36 [eRng r] fun x => x = .str (spanS r) := by
 (refine PFun.of hT Tryz.func36 rfl fun B hD => ?_; refine pw_norm rfl ?_)
 obtain ⟨a, b, c, d⟩ := h
 have l1 := dec5 b
 have l2 := dec5 d
 unfold spanS
 (repeat' (first | (refine zDr [[0,1,2,5,6,7],[3],[4],[8],[9,10]] ?_; refine zDn ?_) | refine zS ?_ | refine zD ?_ | refine po_both ?_ ?_ | refine pwt_both ?_ ?_ | refine pwt_fork ?_ | refine pwt_lin ?_ | (refine po_test rfl rfl rfl rfl zB ?_ ?_ <;> intro hb <;> first | exact zX | refine zDn ?_) | (refine zT ?_ ?_ <;> intro h <;> first | exact zX | refine zNq ?_)))
 ·rw [if_pos h]; exact ret2 _ rfl rfl rfl
 ·rw [if_neg h]; exact ret2 _ rfl rfl rfl
instance iSpan (r : TRng) : ConF Tryz.prog Gl 36 [.agg [.int .u32 r.lo, .int .u32 r.hi]] (PIn2 r) (.str (spanS r)) := ⟨e36, fun h => c_span r h⟩
structure FItem (x : TItem) : Prop where
 pfx : x.kind = 2 → PfxIn x.pfx ∧ rvalid x.pfx = true
 ports : x.kind = 4 → x.proto = 6 ∨ x.proto = 17 → PIn2 x.ports
 proto : x.kind = 4 → 0 ≤ x.proto ∧ x.proto ≤ 255
 kind : x.kind = 1 ∨ x.kind = 2 ∨ x.kind = 3 ∨ x.kind = 4
theorem c_fItems (l : List TItem) (g : Bool) (hl : l.length ≤ 1000) (hf : ∀ x ∈ l, FItem x) : PFun Tryz.prog Gl 31 [.sl (l.map eItem), .bool g] fun r => r = .sl ((itemsW l g).map .str) := by
 (refine PFun.of hT Tryz.func31 rfl fun B hD => ?_; refine pw_norm rfl ?_)
 have hlen : ∀ k, (itemsN l g k).length ≤ 3 * k := fun k => by
  induction k with
  | zero => exact Nat.le_refl _
  | succ k ih =>
   have h1 : (itemW (l.getD k default) g).length ≤ 2 := by
    unfold itemW
    repeat' split
    all_goals exact Nat.le_of_ble_eq_true rfl
   have h2 : (if 0 < k then [[44]] else ([] : List Str)).length ≤ 1 := by split <;> decide
   simp only [itemsN, List.length_append]
   omega
 (repeat' (first | refine zS ?_ | refine zq5 ?_ | refine zq6 ?_ | (refine zT ?_ ?_ <;> intro h <;> first | exact zX | refine zNq ?_)))
 refine pw_ghost 1 ?_
 refine zNq ?_
 refine pw_for hD (fun a : Nat × Nat => [(5, .msl 1 0 0 ((itemsN l g a.1).map PV.str).length a.2), (6, .int .i64 a.1)]) (fun a => [.arr 1 ((itemsN l g a.1).map .str) a.2]) (fun a => a.1 ≤ l.length) (fun a => l.length - a.1) (0, 0) (Nat.zero_le _) 1 rfl (fun _ => rfl) zLes (fun _ => rfl) (fun _ => rfl) zLe ?_
 rintro ⟨k, cap⟩ hk
 dsimp only at hk ⊢
 have hlen := hlen k
 refine zNq ?_
 (repeat' (first | refine zS ?_ | refine zq5 ?_ | refine zq6 ?_))
 refine zT ?_ ?_ <;> intro h <;> refine zNq ?_
 ·have hkl : k < l.length := by omega
  have hx := hf _ (getD_memD hkl)
  (repeat' (first | refine zS ?_ | refine zq5 ?_ | refine zq6 ?_))
  refine pw_joinX hD (fun _ : Nat => True) (fun c => [(5, .msl 1 0 0 ((itemsN l g k ++ if 0 < k then [[44]] else []).map PV.str).length c), (15, .any), (16, .any), (17, .any), (18, .any)]) (fun c => [.arr 1 ((itemsN l g k ++ if 0 < k then [[44]] else []).map .str) c]) 1 rfl (fun _ => rfl) (fun _ => rfl) (fun _ => rfl) ?_ ?_
  ·refine zT ?_ ?_ <;> intro h1 <;> refine zNq ?_
   ·rw [if_pos (show 0 < k by omega)]
    (repeat' (first | refine zS ?_ | refine zq5 ?_ | refine zq6 ?_))
    (refine pl_append (b := 16) hT hD rfl rfl rfl rfl rfl rfl rfl rfl (.inl (Nat.zero_lt_succ _)) rfl rfl (by simp; omega) (fun cap1 _ hcap => ?_); (refine zNp ?_))
    (repeat' (first | refine zS ?_ | refine zq5 ?_ | refine zq6 ?_))
    refine ⟨cap1, trivial, ?_, ?_⟩
    all_goals simp only [List.map_append, List.length_append]
    ·(exact zLe)
    ·(exact zLes)
   ·rw [if_neg (show ¬ 0 < k by omega), List.append_nil]
    (repeat' (first | refine zS ?_ | refine zq5 ?_ | refine zq6 ?_))
    exact ⟨cap, trivial, zLe, zLes⟩
  intro c _
  have hlen2 : (itemsN l g k ++ if 0 < k then [[44]] else []).length ≤ 3 * k + 1 := by
   have : (if 0 < k then [[44]] else ([] : List Str)).length ≤ 1 := by split <;> decide
   rw [List.length_append]; omega
  have hnx : itemsN l g (k + 1) = (itemsN l g k ++ if 0 < k then [[44]] else []) ++ itemW (l.getD k default) g := rfl
  generalize (itemsN l g k ++ if 0 < k then [[44]] else []) = W at hlen2 hnx ⊢
  refine zNq ?_
  have hx3 := hx.ports
  have hx4 := hx.proto
  have hz : (l.getD k default).kind = 4 → ¬ ((l.getD k default).proto = 6 ∨ (l.getD k default).proto = 17) ∨ PIn2 (l.getD k default).ports := fun q => by
   by_cases q2 : (l.getD k default).proto = 6 ∨ (l.getD k default).proto = 17
   ·exact .inr (hx3 q q2)
   ·exact .inl q2
  unfold itemW at hnx
  have hq : (l.getD k default).kind = 1 ∨ ((l.getD k default).kind = 2 ∧ PfxIn (l.getD k default).pfx ∧ rvalid (l.getD k default).pfx = true) ∨ (l.getD k default).kind = 3 ∨ ((l.getD k default).kind = 4 ∧ PIn2 (l.getD k default).ports ∧ 0 ≤ (l.getD k default).proto ∧ (l.getD k default).proto ≤ 255) ∨ ((l.getD k default).kind = 4 ∧ ¬ ((l.getD k default).proto = 6 ∨ (l.getD k default).proto = 17) ∧ 0 ≤ (l.getD k default).proto ∧ (l.getD k default).proto ≤ 255) := by
   rcases hx.kind with q | q | q | q
   ·exact .inl q
   ·exact .inr (.inl ⟨q, hx.pfx q⟩)
   ·exact .inr (.inr (.inl q))
   ·rcases hz q with z | z
    ·exact .inr (.inr (.inr (.inr ⟨q, z, hx4 q⟩)))
    ·exact .inr (.inr (.inr (.inl ⟨q, z, hx4 q⟩)))
  clear hz hx3 hx4
  rcases hq with q | ⟨q, q1, q2⟩ | q | ⟨q, q1, q2, q3⟩ | ⟨q, q1, q2, q3⟩
  all_goals
   (repeat' (first | refine zS ?_ | refine zq5 ?_ | refine zq6 ?_ | (refine zT ?_ ?_ <;> intro h <;> first | exact zX | refine zNq ?_)))
  all_goals
   (repeat rw [if_neg (by assumption)] at hnx)
   (try rw [if_pos (by assumption)] at hnx)
   (refine pl_append (b := 16) hT hD rfl rfl rfl rfl rfl rfl rfl rfl (.inl (Nat.zero_lt_succ _)) rfl rfl (by simp; omega) (fun cap1 _ hcap => ?_); (refine zNp ?_))
   (repeat' (first | refine zS ?_ | refine zq5 ?_ | refine zq6 ?_ | (refine zT ?_ ?_ <;> intro h <;> first | exact zX | refine zNq ?_)))
   refine ⟨(k + 1, cap1), by dsimp only; omega, by dsimp only; omega, ?_, ?_⟩
   all_goals simp only [hnx, List.map_append, List.length_append]
   ·(exact zLe)
   ·(exact zLes)
 ·obtain rfl : k = l.length := by omega
  (repeat' (first | refine zS ?_ | refine zq5 ?_ | refine zq6 ?_ | (refine zT ?_ ?_ <;> intro h <;> first | exact zX | refine zNq ?_)))
  exact ret0 _ (.sl ((itemsW l g).map .str)) rfl rfl (.inr (.inr (.inr (.inl ⟨_, _, _, _, _, _, rfl, rfl, rfl, rfl, rfl⟩)))) rfl
instance iFItems (l : List TItem) (g : Bool) : ConF Tryz.prog Gl 31 [.sl (l.map eItem), .bool g] (l.length ≤ 1000 ∧ ∀ x ∈ l, FItem x) (.sl ((itemsW l g).map .str)) := ⟨e31, fun h => c_fItems l g h.1 h.2⟩
end
section
structure IIn2 (i : TInt) : Prop extends IIn i where
 pins : ∀ p ∈ i.pubs, (0 ≤ p.addr ∧ p.addr < 4294967296) ∧ 0 ≤ p.real ∧ p.real < 4294967296
 hins : ∀ h ∈ i.hids, 0 ≤ h.addr ∧ h.addr < 4294967296
structure VDef (l : List TDef) (sv : Bool) : Prop where
 len : l.length ≤ 32
 name : ∀ d ∈ l, vname d.name = true
 first : ∀ k, k < l.length → firstAt (fun x : TDef => x.name == (l.getD k default).name) l = k
 i1 : ∀ d ∈ l, 1 ≤ d.items.length
 i2 : ∀ d ∈ l, d.items.length ≤ 16
 items : ∀ d ∈ l, ∀ x ∈ d.items, vItem x sv = true
theorem vDefs_v {l : List TDef} {sv : Bool} (h : vDefs l sv = true) : VDef l sv := by
 unfold vDefs at h
 rw [Bool.and_eq_true, decide_eq_true_eq, List.all_eq_true] at h
 have hk : ∀ k, k < l.length → dOk l sv k = true := fun k hk => h.2 k (List.mem_range.2 hk)
 have hd : ∀ d ∈ l, ∃ k, k < l.length ∧ l.getD k default = d := fun d hd => by
  obtain ⟨k, hk⟩ := List.mem_iff_getElem?.1 hd
  exact ⟨k, (List.getElem?_eq_some_iff.1 hk).1, by rw [List.getD, hk]; rfl⟩
 have hf : ∀ k, k < l.length → ((vname (l.getD k default).name = true ∧ firstAt (fun x : TDef => x.name == (l.getD k default).name) l = k) ∧ 1 ≤ (l.getD k default).items.length) ∧ (l.getD k default).items.length ≤ 16 := fun k hk' => by
  have := hk k hk'
  unfold dOk dHead at this
  simp only [Bool.and_eq_true, decide_eq_true_eq] at this
  exact this.1
 refine ⟨h.1, fun d hd' => ?_, fun k hk' => (hf k hk').1.1.2, fun d hd' => ?_, fun d hd' => ?_, fun d hd' => ?_⟩
 ·obtain ⟨k, h1, rfl⟩ := hd d hd'; exact (hf k h1).1.1.1
 ·obtain ⟨k, h1, rfl⟩ := hd d hd'; exact (hf k h1).1.2
 ·obtain ⟨k, h1, rfl⟩ := hd d hd'; exact (hf k h1).2
 ·obtain ⟨k, h1, rfl⟩ := hd d hd'
  have := hk k h1
  unfold dOk at this
  rw [Bool.and_eq_true, List.all_eq_true] at this
  exact this.2
structure IV (i : TInt) : Prop where
 gs : VDef i.groups false
 ss : VDef i.services true
 wl : i.windows.length ≤ 32
 sl : i.stms.length ≤ 64
 pl : i.pubs.length ≤ 16
 hl : i.hids.length ≤ 8
 wname : ∀ w ∈ i.windows, vname w.name = true
 wfirst : ∀ k, k < i.windows.length → firstAt (fun x : TWin => x.name == (i.windows.getD k default).name) i.windows = k
 wok : ∀ w ∈ i.windows, wOkB w.active = true
 stms : ∀ s ∈ i.stms, vStm s = true
 pubs : ∀ p ∈ i.pubs, vPub p = true
 hids : ∀ h ∈ i.hids, vHid h = true
theorem iValid_v {i : TInt} (h : iValid i = true) : IV i := by
 unfold iValid at h
 simp only [Bool.and_eq_true, decide_eq_true_eq, List.all_eq_true] at h
 obtain ⟨⟨⟨⟨⟨⟨a1, a2⟩, a3⟩, a4⟩, a5⟩, a6⟩, ⟨⟨b1, b2⟩, b3⟩, b4⟩ := h
 have hd : ∀ d ∈ i.windows, ∃ k, k < i.windows.length ∧ i.windows.getD k default = d := fun d hd => by
  obtain ⟨k, hk⟩ := List.mem_iff_getElem?.1 hd
  exact ⟨k, (List.getElem?_eq_some_iff.1 hk).1, by rw [List.getD, hk]; rfl⟩
 have hw : ∀ k, k < i.windows.length → (vname (i.windows.getD k default).name = true ∧ firstAt (fun x : TWin => x.name == (i.windows.getD k default).name) i.windows = k) ∧ wOkB (i.windows.getD k default).active = true := fun k hk => by
  have := b1 k (List.mem_range.2 hk)
  unfold wWin at this
  simpa only [Bool.and_eq_true, decide_eq_true_eq] using this
 refine ⟨vDefs_v a1, vDefs_v a2, a3, a4, a5, a6, fun d hd' => ?_, fun k hk => (hw k hk).1.2, fun d hd' => ?_, b2, b3, b4⟩
 ·obtain ⟨k, h1, rfl⟩ := hd d hd'; exact (hw k h1).1.1
 ·obtain ⟨k, h1, rfl⟩ := hd d hd'; exact (hw k h1).2
theorem eqR_eq {x y : TRng} (h : eqR x y = true) : x = y := by
 unfold eqR at h
 simp only [Bool.and_eq_true, beq_iff_eq] at h
 cases x; cases y
 simp only [TRng.mk.injEq]
 exact ⟨h.1, h.2.1⟩
theorem eqI_eq {x y : TItem} (h : eqI x y = true) : x = y := by
 unfold eqI at h
 simp only [Bool.and_eq_true, beq_iff_eq] at h
 obtain ⟨h1, h2, ⟨h3, h4, _⟩, h5, ⟨h6, h7, _⟩, _⟩ := h
 obtain ⟨k, n, ⟨a, b⟩, p, ⟨l, u⟩⟩ := x
 obtain ⟨k', n', ⟨a', b'⟩, p', ⟨l', u'⟩⟩ := y
 dsimp only at *
 subst h1 h2 h3 h4 h5 h6 h7
 rfl
theorem vItem_f {x : TItem} {sv : Bool} (h : vItem x sv = true) (hi : ItIn x) : FItem x := by
 unfold vItem at h
 split at h
 ·rename_i k
  exact ⟨fun q => by omega, fun q => by omega, fun q => by omega, .inl k⟩
 split at h
 ·rename_i k
  rw [Bool.and_eq_true, Bool.and_eq_true, valid_eq x.pfx hi.addr] at h
  exact ⟨fun _ => ⟨hi.addr, h.1.2⟩, fun q => by omega, fun q => by omega, .inr (.inl k)⟩
 split at h
 ·rename_i k
  exact ⟨fun q => by omega, fun q => by omega, fun q => by omega, .inr (.inr (.inl k))⟩
 split at h
 ·rename_i k
  rw [Bool.and_eq_true, Bool.and_eq_true] at h
  have hp := h.1.2
  have hl := hi.lo
  unfold vPorts at hp
  refine ⟨fun q => by omega, fun _ q => ?_, fun _ => ?_, .inr (.inr (.inr k))⟩
  ·rw [if_pos q, Bool.and_eq_true, decide_eq_true_eq, decide_eq_true_eq] at hp
   exact ⟨hl, by omega, by omega, hp.2⟩
  ·split at hp
   ·omega
   split at hp
   ·omega
   simp only [Bool.and_eq_true, decide_eq_true_eq] at hp
   omega
 ·cases h
theorem stm_prio {s : TStm} (h : vStm s = true) : 0 ≤ s.prio ∧ s.prio ≤ 1000 := by
 unfold vStm stmRest at h
 simp only [Bool.and_eq_true, decide_eq_true_eq] at h
 exact ⟨h.2.1.2, h.2.2⟩
theorem pub_f {p : TPub} (h : vPub p = true) : (p.proto = 6 ∨ p.proto = 17) ∧ (0 ≤ p.port ∧ p.port ≤ 65535) ∧ (0 ≤ p.realPort ∧ p.realPort ≤ 65535) ∧ vname p.edge = true := by
 unfold vPub at h
 simp only [Bool.and_eq_true, Bool.or_eq_true, decide_eq_true_eq, beq_iff_eq] at h
 obtain ⟨⟨⟨a, b⟩, c⟩, d⟩ := h
 exact ⟨a, b, c, d⟩
theorem hid_f {x : THid} (h : vHid x = true) : vname x.group = true ∧ vname x.edge = true ∧ 1024 ≤ x.ports.lo ∧ x.ports.lo ≤ x.ports.hi ∧ x.ports.hi ≤ 65535 := by
 unfold vHid at h
 simp only [Bool.and_eq_true, decide_eq_true_eq] at h
 obtain ⟨⟨a, b⟩, ⟨c, d⟩, e⟩ := h
 exact ⟨a, b, c, d, e⟩
theorem firstAt_before {α : Type} {p : α → Bool} {l : List α} {i : Nat} (h : firstAt p l = (i : Int)) : ∀ (j : Nat) x, j < i → l[j]? = some x → p x = false := by
 unfold firstAt at h
 cases hf : l.findIdx? p with
 | none => rw [hf] at h; have : (-1 : Int) = (i : Int) := h; omega
 | some k =>
  rw [hf] at h
  have hk : k = i := by have h' : (k : Int) = (i : Int) := h; omega
  subst hk
  rw [List.findIdx?_eq_some_iff_getElem] at hf
  obtain ⟨hk, _, h0⟩ := hf
  intro j x hj hx
  have := h0 j hj
  have e := List.getElem?_eq_getElem (show j < l.length by omega)
  rw [hx] at e
  cases e
  simpa using this
theorem firstAt_done {α : Type} {p : α → Bool} {l : List α} {i : Nat} (h : firstAt p l = (i : Int)) : firstAt p (l.take i) = -1 := by
 refine firstAt_miss fun j x hx => ?_
 rw [List.getElem?_take] at hx
 split at hx
 ·rename_i hj
  exact firstAt_before h j x hj hx
 ·cases hx
theorem gbyte_v : ∀ n : Fin 256, vbyte (UInt8.ofNat n.val) = true → gbyte (UInt8.ofNat n.val) = true := by decide +kernel
theorem gbyte_d : ∀ n : Fin 256, dbad (UInt8.ofNat n.val) = false → gbyte (UInt8.ofNat n.val) = true := by decide +kernel
theorem of_fin {p : UInt8 → Prop} (h : ∀ n : Fin 256, p (UInt8.ofNat n.val)) (c : UInt8) : p c := by
 have := h ⟨c.toNat, c.toNat_lt⟩
 simpa using this
theorem vname_gw {s : Str} (h : vname s = true) : GW s := by
 unfold vname at h
 simp only [Bool.and_eq_true, Bool.not_eq_true'] at h
 obtain ⟨h1, h2⟩ := h
 refine ⟨fun e => ?_, fun c hc => of_fin (p := fun c => vbyte c = true → gbyte c = true) gbyte_v c (List.all_eq_true.1 h2 c hc)⟩
 subst e
 simp [vhead] at h1
theorem dec_g (n : Nat) : ∀ c ∈ dec n, gbyte c = true := fun c hc => of_fin (p := fun c => dbad c = false → gbyte c = true) gbyte_d c (by simpa using List.any_eq_false.1 (dec_dig n) c hc)
theorem dec_gw (n : Nat) : GW (dec n) := ⟨dec_ne n, dec_g n⟩
theorem pfxS_gw (p : TPfx) : GW (pfxS p) := by
 refine ⟨by simp [pfxS], fun c hc => ?_⟩
 simp only [pfxS, addrS, List.mem_append, List.mem_singleton] at hc
 rcases hc with ((((((((hc | hc) | hc) | hc) | hc) | hc) | hc) | hc) | hc)
 all_goals first | exact dec_g _ c hc | (subst hc; decide)
theorem key_gw {s : Str} (h : (!(s == []) && s.all gbyte) = true) : GW s := by
 simp only [Bool.and_eq_true, Bool.not_eq_true', beq_eq_false_iff_ne] at h
 exact ⟨h.1, List.all_eq_true.1 h.2⟩
def Sp (s : Str) : Prop := s = [44] ∨ s = [61]
structure FW (s : Str) : Prop where
 len : s.length ≤ 24
 good : GW s ∨ Sp s
theorem gw_join {a b : Str} {c : UInt8} (ha : GW a) (hc : gbyte c = true) (hb : GW b) : GW ((a ++ [c]) ++ b) := by
 refine ⟨by simp [ha.ne], fun x hx => ?_⟩
 rcases List.mem_append.1 hx with hx | hx
 ·rcases List.mem_append.1 hx with hx | hx
  ·exact ha.all x hx
  ·rw [List.mem_singleton.1 hx]; exact hc
 ·exact hb.all x hx
theorem fw_name {s : Str} (h : vname s = true) : FW s := ⟨vname_len h, .inl (vname_gw h)⟩
theorem fw_key {s : Str} (h : (decide (s.length ≤ 24) && (!(s == []) && s.all gbyte)) = true) : FW s := by
 rw [Bool.and_eq_true, decide_eq_true_eq] at h
 exact ⟨h.1, .inl (key_gw h.2)⟩
theorem fw_dec {n : Int} (h : n ≤ 65535) : FW (dec n.toNat) := ⟨Nat.le_trans (dec5 h) (by decide), .inl (dec_gw _)⟩
theorem fw_nameS {s : Str} (h : okName s = true) : FW (nameS s) := by
 unfold nameS
 unfold okName at h
 split
 ·exact fw_key (by decide)
 ·rename_i hs
  rw [Bool.or_eq_true, beq_iff_eq] at h
  exact fw_name (h.resolve_left hs)
theorem fw_span {r : TRng} (h : PIn2 r) : FW (spanS r) := by
 have l1 := dec5 h.l1
 have l2 := dec5 h.h1
 unfold spanS
 split
 ·exact fw_dec h.l1
 ·refine ⟨?_, .inl (gw_join (dec_gw _) (by decide) (dec_gw _))⟩
  simp only [List.length_append, List.length_cons, List.length_nil]
  omega
theorem addrS_gw (a : Nat) : GW (addrS a) := by
 unfold addrS
 exact gw_join (gw_join (gw_join (dec_gw _) (by decide) (dec_gw _)) (by decide) (dec_gw _)) (by decide) (dec_gw _)
theorem fw_addr (a : Nat) : FW (addrS a) := ⟨Nat.le_trans (addrS_len a) (by decide), .inl (addrS_gw a)⟩
theorem fw_pfx {p : TPfx} (h : rvalid p = true) : FW (pfxS p) := ⟨pfxS_len p (rvalid_b h), .inl (pfxS_gw p)⟩
theorem fw_comma : FW [44] := ⟨by decide, .inr (.inl rfl)⟩
theorem fw_eq : FW [61] := ⟨by decide, .inr (.inr rfl)⟩
theorem fw_item {x : TItem} {g : Bool} (hf : FItem x) (hn : x.kind = 1 ∨ x.kind = 3 → vname x.name = true) : ∀ s ∈ itemW x g, FW s := by
 have two : ∀ {a b : Str}, FW a → FW b → ∀ s ∈ [a, b], FW s := fun ha hb s hs => by
  simp only [List.mem_cons, List.mem_nil_iff, or_false] at hs
  rcases hs with rfl | rfl
  ·exact ha
  ·exact hb
 unfold itemW
 split
 ·rename_i h; exact two (fw_key (by decide)) (fw_name (hn (.inr h.1)))
 split
 ·rename_i h; exact two (fw_key (by decide)) (fw_name (hn (.inr h)))
 split
 ·rename_i h; exact two (fw_key (by decide)) (fw_name (hn (.inl h)))
 split
 ·rename_i h; exact two (fw_key (by decide)) (fw_pfx (hf.pfx h).2)
 rename_i h1 h2 h3 h4
 have k4 : x.kind = 4 := by have := hf.kind; omega
 split
 ·rename_i h; exact two (fw_key (by decide)) (fw_span (hf.ports k4 (.inl h)))
 split
 ·rename_i h; exact two (fw_key (by decide)) (fw_span (hf.ports k4 (.inr h)))
 split
 ·intro s hs; rw [List.mem_singleton.1 hs]; exact fw_key (by decide)
 ·exact two (fw_key (by decide)) (fw_dec (by have := hf.proto k4; omega))
theorem vItem_name {x : TItem} {sv : Bool} (h : vItem x sv = true) : x.kind = 1 ∨ x.kind = 3 → vname x.name = true := by
 unfold vItem at h
 intro hk
 split at h
 ·simp only [Bool.and_eq_true] at h; exact h.1.2
 split at h
 ·omega
 split at h
 ·simp only [Bool.and_eq_true] at h; exact h.1
 ·omega
theorem fw_itemsN {l : List TItem} {g : Bool} (h : ∀ x ∈ l, ∀ s ∈ itemW x g, FW s) : ∀ k, k ≤ l.length → ∀ s ∈ itemsN l g k, FW s
 | 0, _, s, hs => by cases hs
 | k + 1, hk, s, hs => by
  rw [itemsN] at hs
  rcases List.mem_append.1 hs with hs | hs
  ·rcases List.mem_append.1 hs with hs | hs
   ·exact fw_itemsN h k (by omega) s hs
   ·split at hs
    ·rw [List.mem_singleton.1 hs]; exact fw_comma
    ·cases hs
  ·exact h _ (getD_memD (by omega)) s hs
theorem itemW_len (x : TItem) (g : Bool) : (itemW x g).length ≤ 2 ∧ 1 ≤ (itemW x g).length := by
 unfold itemW
 repeat' split
 all_goals exact ⟨Nat.le_of_ble_eq_true rfl, Nat.le_of_ble_eq_true rfl⟩
theorem itemsN_len (l : List TItem) (g : Bool) : ∀ k, (itemsN l g k).length ≤ 3 * k ∧ (0 < k → (itemsN l g k).length + 1 ≤ 3 * k)
 | 0 => ⟨Nat.le_refl _, fun h => by omega⟩
 | k + 1 => by
  have h1 := itemsN_len l g k
  have h2 := itemW_len (l.getD k default) g
  rw [itemsN, List.length_append, List.length_append]
  by_cases hk : 0 < k
  ·rw [if_pos hk]
   have := h1.2 hk
   simp only [List.length_cons, List.length_nil]
   omega
  ·rw [if_neg hk]
   simp only [List.length_nil]
   omega
theorem dig_g (d : Nat) (h : d < 10) : gbyte (UInt8.ofNat (48 + d)) = true := by
 have : ∀ d : Fin 10, gbyte (UInt8.ofNat (48 + d.val)) = true := by decide
 exact this ⟨d, h⟩
theorem twoS_gw {n : Int} (h : n < 100) : GW (twoS n) := by
 refine ⟨by simp [twoS], fun c hc => ?_⟩
 simp only [twoS, List.mem_cons, List.mem_nil_iff, or_false] at hc
 rcases hc with rfl | rfl
 ·exact dig_g _ (by omega)
 ·exact dig_g _ (by omega)
theorem timeS_gw {n : Int} (h : n ≤ 1440) : GW (timeS n) := gw_join (twoS_gw (by omega)) (by decide) (twoS_gw (by omega))
theorem dayName_fw {d : Nat} (h : d < 7) : FW (dayNames.getD d []) := by
 have : ∀ d : Fin 7, (decide ((dayNames.getD d.val []).length ≤ 24) && (!((dayNames.getD d.val []) == []) && (dayNames.getD d.val []).all gbyte)) = true := by decide
 exact fw_key (this ⟨d, h⟩)
theorem fw_wItem {d : Nat} {r : TRng} (hd : d < 7) (hr : (d : Int) * 1440 ≤ r.lo ∧ r.lo ≤ r.hi ∧ r.hi < d * 1440 + 1440) : ∀ s ∈ wItem d r, FW s := by
 intro s hs
 simp only [wItem, List.mem_cons, List.mem_nil_iff, or_false] at hs
 rcases hs with rfl | rfl
 ·exact dayName_fw hd
 ·refine ⟨by simp [timeS, twoS], .inl (gw_join (timeS_gw (by omega)) (by decide) (timeS_gw (by omega)))⟩
theorem fw_wPuts {d : Nat} (hd : d < 7) : ∀ (xs : List TRng) (o : List Str), (∀ r ∈ xs, (d : Int) * 1440 ≤ r.lo ∧ r.lo ≤ r.hi ∧ r.hi < d * 1440 + 1440) → (∀ s ∈ o, FW s) → ∀ s ∈ xs.foldl (wPut d) o, FW s
 | [], _, _, ho => ho
 | x :: xs, o, hx, ho => by
  refine fw_wPuts hd xs (wPut d o x) (fun r hr => hx r (List.mem_cons_of_mem _ hr)) fun s hs => ?_
  unfold wPut at hs
  rcases List.mem_append.1 hs with hs | hs
  ·split at hs
   ·rcases List.mem_append.1 hs with hs | hs
    ·exact ho s hs
    ·rw [List.mem_singleton.1 hs]; exact fw_comma
   ·exact ho s hs
  ·exact fw_wItem hd (hx x (List.mem_cons_self ..)) s hs
theorem fw_wDays (l : List TRng) : ∀ n, n ≤ 7 → ∀ s ∈ wDays l n, FW s
 | 0, _, s, hs => by cases hs
 | n + 1, hn, s, hs => by
  rw [wDays_succ] at hs
  exact fw_wPuts (by omega) _ _ (wDay_in l n) (fw_wDays l n (by omega)) s hs
theorem fw_wFormat (l : List TRng) : ∀ s ∈ wFormat l, FW s := by
 unfold wFormat
 split
 ·split
  ·intro s hs; rw [List.mem_singleton.1 hs]; exact fw_key (by decide)
  ·exact fw_wDays l 7 (by omega)
 ·intro s hs; cases hs
theorem wOk_len {l : List TRng} (h : wOkB l = true) : 1 ≤ (wFormat l).length ∧ (wFormat l).length ≤ 49 := by
 unfold wOkB at h
 simp only [Bool.and_eq_true, decide_eq_true_eq] at h
 omega
structure FL (w : List Str) : Prop where
 some : 0 < w.length
 few : w.length ≤ 60
 each : ∀ s ∈ w, FW s
theorem FL.wle {w : List Str} (h : FL w) : WLe2 w := ⟨h.few, fun s hs => Nat.le_trans (h.each s hs).len (by decide)⟩
theorem all2 {Q : Str → Prop} {a b : List Str} (ha : ∀ s ∈ a, Q s) (hb : ∀ s ∈ b, Q s) : ∀ s ∈ a ++ b, Q s := fun s hs => (List.mem_append.1 hs).elim (ha s) (hb s)
theorem all0 {Q : Str → Prop} : ∀ s ∈ ([] : List Str), Q s := fun s hs => by cases hs
theorem all1 {Q : Str → Prop} {a : Str} {l : List Str} (ha : Q a) (hl : ∀ s ∈ l, Q s) : ∀ s ∈ a :: l, Q s := fun s hs => by
 rcases List.mem_cons.1 hs with rfl | hs
 ·exact ha
 ·exact hl s hs
theorem fl_def {l : List TDef} {sv : Bool} (h : VDef l sv) (hi : ∀ d ∈ l, ∀ x ∈ d.items, ItIn x) (g : Bool) {d : TDef} (hd : d ∈ l) : FL (defW g d) := by
 have h1 := itemsN_len d.items g d.items.length
 have h2 := h.i2 d hd
 unfold defW itemsW
 refine ⟨by simp, ?_, ?_⟩
 ·simp only [List.length_append, List.length_cons, List.length_nil]; omega
 ·refine all2 (all1 ?_ (all1 (fw_name (h.name d hd)) (all1 fw_eq all0))) (fw_itemsN (fun x hx => fw_item (vItem_f (h.items d hd x hx) (hi d hd x hx)) (vItem_name (h.items d hd x hx))) _ (Nat.le_refl _))
  cases g <;> exact fw_key (by decide)
theorem fl_win {i : TInt} (h : IV i) {d : TWin} (hd : d ∈ i.windows) : FL (winW d) := by
 have h1 := wOk_len (h.wok d hd)
 unfold winW
 refine ⟨by simp, ?_, all2 (all1 (fw_key (by decide)) (all1 (fw_name (h.wname d hd)) (all1 fw_eq all0))) (fw_wFormat _)⟩
 simp only [List.length_append, List.length_cons, List.length_nil]; omega
theorem stm_names {s : TStm} (h : vStm s = true) : okName s.src = true ∧ okName s.dst = true ∧ okName s.service = true ∧ okName s.cls = true ∧ okName s.during = true ∧ okName s.exSrc = true ∧ okName s.exDst = true := by
 unfold vStm stmNames at h
 simp only [Bool.and_eq_true, List.all_cons, List.all_nil, and_true] at h
 obtain ⟨⟨a, b, c, d, e, f, g⟩, _⟩ := h
 exact ⟨a, b, c, d, e, f, g⟩
theorem okName_v {s : Str} (h : okName s = true) (hs : ¬ s = []) : vname s = true := by
 unfold okName at h
 rw [Bool.or_eq_true, beq_iff_eq] at h
 exact h.resolve_left hs
theorem fl_stm {s : TStm} (h : vStm s = true) : FL (stmW s) := by
 obtain ⟨n1, n2, n3, n4, n5, n6, n7⟩ := stm_names h
 have hp := stm_prio h
 have e0 : (stmW0 s).length = 5 := rfl
 have a0 : ∀ x ∈ stmW0 s, FW x := by
  unfold stmW0
  refine all1 ?_ (all1 (fw_nameS n1) (all1 (fw_key (by decide)) (all1 (fw_nameS n2) (all1 (fw_nameS n3) all0))))
  split <;> exact fw_key (by decide)
 have a1 : ∀ x ∈ stmW1 s, FW x := by
  unfold stmW1
  refine all2 a0 ?_
  split
  ·exact all1 (fw_key (by decide)) (all1 (fw_nameS n6) (all1 (fw_key (by decide)) (all1 (fw_nameS n7) all0)))
  ·exact all0
 have e1 : (stmW1 s).length ≤ 9 := by unfold stmW1; rw [List.length_append]; split <;> simp [e0]
 have e1' : 5 ≤ (stmW1 s).length := by unfold stmW1; rw [List.length_append]; omega
 have a2 : ∀ x ∈ stmW2 s, FW x := by
  unfold stmW2
  refine all2 a1 ?_
  split
  ·exact all0
  ·rename_i q; exact all1 (fw_key (by decide)) (all1 (fw_name (okName_v n4 q)) all0)
 have e2 : (stmW2 s).length ≤ 11 := by unfold stmW2; rw [List.length_append]; split <;> simp <;> omega
 have e2' : 5 ≤ (stmW2 s).length := by unfold stmW2; rw [List.length_append]; omega
 have a3 : ∀ x ∈ stmW3 s, FW x := by
  unfold stmW3
  refine all2 a2 ?_
  split
  ·exact all0
  ·rename_i q; exact all1 (fw_key (by decide)) (all1 (fw_name (okName_v n5 q)) all0)
 have e3 : (stmW3 s).length ≤ 13 := by unfold stmW3; rw [List.length_append]; split <;> simp <;> omega
 have e3' : 5 ≤ (stmW3 s).length := by unfold stmW3; rw [List.length_append]; omega
 refine ⟨?_, ?_, ?_⟩
 ·unfold stmW; rw [List.length_append]; omega
 ·unfold stmW; rw [List.length_append]; split <;> simp <;> omega
 ·unfold stmW
  refine all2 a3 ?_
  split
  ·exact all0
  ·exact all1 (fw_key (by decide)) (all1 (fw_dec (by omega)) all0)
theorem fl_pub {p : TPub} (h : vPub p = true) : FL (pubW p) := by
 obtain ⟨_, h2, h3, h4⟩ := pub_f h
 refine ⟨by simp [pubW], by simp [pubW], ?_⟩
 unfold pubW
 refine all1 (fw_key (by decide)) (all1 (fw_addr _) (all1 ?_ (all1 (fw_dec h2.2) (all1 (fw_key (by decide)) (all1 (fw_name h4) (all1 (fw_key (by decide)) (all1 (fw_addr _) (all1 (fw_dec h3.2) all0))))))))
 split <;> exact fw_key (by decide)
theorem hid_pin {x : THid} (h : vHid x = true) : PIn2 x.ports := by
 obtain ⟨_, _, h3, h4, h5⟩ := hid_f h
 exact ⟨by omega, by omega, by omega, by omega⟩
theorem fl_hid {x : THid} (h : vHid x = true) : FL (hidW x) := by
 obtain ⟨h1, h2, _⟩ := hid_f h
 refine ⟨by simp [hidW], by simp [hidW], ?_⟩
 unfold hidW
 exact all1 (fw_key (by decide)) (all1 (fw_name h1) (all1 (fw_key (by decide)) (all1 (fw_name h2) (all1 (fw_key (by decide)) (all1 (fw_addr _) (all1 (fw_key (by decide)) (all1 (fw_span (hid_pin h)) all0)))))))
theorem iLines_fl {i : TInt} (h : IV i) (hi : IIn i) : ∀ x ∈ iLines i, FL x.words := by
 intro x hx
 simp only [iLines, lGroups, lServices, lWindows, lStms, lPubs, lHids, List.mem_append, List.mem_map] at hx
 rcases hx with ((((⟨d, hd, rfl⟩ | ⟨d, hd, rfl⟩) | ⟨d, hd, rfl⟩) | ⟨d, hd, rfl⟩) | ⟨d, hd, rfl⟩) | ⟨d, hd, rfl⟩
 ·exact fl_def h.gs hi.gits true hd
 ·exact fl_def h.ss hi.sits false hd
 ·exact fl_win h hd
 ·exact fl_stm (h.stms d hd)
 ·exact fl_pub (h.pubs d hd)
 ·exact fl_hid (h.hids d hd)
theorem iLines_len {i : TInt} (h : IV i) : (iLines i).length ≤ 184 := by
 have h1 := h.gs.len
 have h2 := h.ss.len
 have h3 := h.wl
 have h4 := h.sl
 have h5 := h.pl
 have h6 := h.hl
 simp only [iLines, lGroups, lServices, lWindows, lStms, lPubs, lHids, List.length_append, List.length_map]
 omega
theorem iText_len {i : TInt} (h : IV i) (hi : IIn i) : (textS (iLines i)).length ≤ 541144 := by
 have h1 := textS_len2 (iLines i) fun x hx => (iLines_fl h hi x hx).wle
 have h2 := iLines_len h
 have : (iLines i).length * 2941 ≤ 184 * 2941 := Nat.mul_le_mul_right _ h2
 omega
theorem GGItem.iin {x : Topo} {y : TItem} (h : GGItem x y) : ItIn y := by
 rcases h with ⟨p, hp, rfl⟩ | ⟨e, _, rfl⟩ | rfl
 ·exact ⟨hp.1, Int.le_refl 0⟩
 ·exact ⟨⟨Int.le_refl 0, (by decide : (0 : Int) < 4294967296)⟩, Int.le_refl 0⟩
 ·exact ⟨⟨Int.le_refl 0, (by decide : (0 : Int) < 4294967296)⟩, Int.le_refl 0⟩
theorem GSItem.iin {y : TItem} (h : GSItem y) : ItIn y := by
 rcases h with ⟨p, r, _, hr, rfl⟩ | rfl | rfl | rfl
 ·exact ⟨⟨Int.le_refl 0, (by decide : (0 : Int) < 4294967296)⟩, hr.1⟩
 all_goals exact ⟨⟨Int.le_refl 0, (by decide : (0 : Int) < 4294967296)⟩, by decide⟩
theorem GDefs.mem {nm : List Str} {Q : TItem → Prop} {ds : List TDef} (h : GDefs nm Q ds) {d : TDef} (hd : d ∈ ds) : (1 ≤ d.items.length ∧ d.items.length ≤ 2) ∧ ∀ y ∈ d.items, Q y := by
 obtain ⟨k, hk⟩ := List.mem_iff_getElem?.1 hd
 exact (h.2 k d hk).2
theorem IGen.win {x : Topo} {n : Nat} {i : TInt} (h : IGen x n i) {d : TWin} (hd : d ∈ i.windows) : ∃ q, QW q ∧ d = ⟨[119, 111, 114, 107], (wParse (wWords q)).1⟩ := by
 rcases h.ws with e | ⟨q, hq, e⟩
 ·rw [e] at hd; cases hd
 ·rw [e, List.mem_singleton] at hd; exact ⟨q, hq, hd⟩
theorem IGen.big {x : Topo} {n : Nat} {i : TInt} (h : IGen x n i) (hn : n < 900) : IBig i := by
 have h1 := h.gs.1
 have h2 := h.ss.1
 have h3 : i.windows.length ≤ 1 := by
  rcases h.ws with e | ⟨q, _, e⟩ <;> rw [e] <;> simp
 have h4 := h.stl
 have h5 := h.pl
 have h6 := h.hl
 refine ⟨by omega, by omega, by omega, by omega, by omega, by omega, fun d hd => ?_, fun d hd => ?_, fun d hd => ?_⟩
 ·have := (h.gs.mem hd).1; omega
 ·have := (h.ss.mem hd).1; omega
 ·obtain ⟨q, _, rfl⟩ := h.win hd
  have := (wParse_ok (wWords q)).2
  dsimp only; omega
theorem IGen.iin {x : Topo} {n : Nat} {i : TInt} (h : IGen x n i) : IIn2 i := by
 refine ⟨⟨fun d hd y hy => ((h.gs.mem hd).2 y hy).iin, fun d hd y hy => ((h.ss.mem hd).2 y hy).iin, fun d hd => ?_⟩, fun p hp => (h.pub p hp).2.2.2.2, fun p hp => (h.hid p hp).2.2.1⟩
 obtain ⟨q, _, rfl⟩ := h.win hd
 have := wParse_ok (wWords q)
 exact ⟨by have := this.2; dsimp only; omega, this.1⟩
theorem iFormat_len {i : TInt} (hi : IIn i) : (iFormat i).1.length ≤ 541144 := by
 unfold iFormat
 split
 ·rename_i h; exact iText_len (iValid_v h) hi
 ·exact Nat.zero_le _
theorem TGen.epfx {m : Nat} {t : Topo} (h : TGen m t) : ∀ e ∈ t.edges, PfxIn e.pfx := fun e he => by
 obtain ⟨k, hk⟩ := List.mem_iff_getElem?.1 he
 rw [(h.edges k e hk).pfx, List.getD]
 cases hs : subnets[k]? with
 | none => exact ⟨Int.le_refl 0, (by decide : (0 : Int) < 4294967296)⟩
 | some p => exact subnets_in (List.mem_of_getElem? hs)

end
end Go.Proofs.YtkaobkjcjodffaaGreatDoor