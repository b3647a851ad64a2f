/-
  What the arguments of the laws on topologies read as.
  What the laws' cards ask of the program and of its variables, once for all laws.
-/
import Derived.Test.YtdehdgbdcfkpbaaGreatDoorJPwLoop
import Derived.Test.YtdehdgbdcfkpbaaGreatDoorKA5
import Derived.Test.YtdehdgbdcfkpbaaGreatDoorCards
import Derived.Test.YtdehdgbdcfkpbaaGreatDoorTie
import Derived.Test.YtdehdgbdcfkpbaaGreatDoorKLib
import Derived.Lay
import Derived.LaidOnce
import Derived.Shelf.Vars
import Derived.SevenTiedAt
import Derived.Test.YtdehdgbdcfkpbaaGreatDoorKB5
namespace Go.Proofs.YtdehdgbdcfkpbaaGreatDoor
open Go Go.Pw
theorem wt_int {n : Nat} {t : TypeId} {ps : List PV} {k : IntKind} {a b : Nat} {z : Option (List PV)} (ht : tys[t]? = some ⟨.int k, a, b, z⟩) (h : WT tys (n + 1) t ps) : ∃ m, ps = [.int k m] ∧ k.min ≤ m ∧ m ≤ k.max := by
  unfold WT at h
  rw [ht] at h
  obtain ⟨m, hm, hw⟩ := h
  refine ⟨m, hm, ?_⟩
  simpa [Lit.wf] using hw
theorem wt_bool {n : Nat} {t : TypeId} {ps : List PV} {a b : Nat} {z : Option (List PV)} (ht : tys[t]? = some ⟨.bool, a, b, z⟩) (h : WT tys (n + 1) t ps) : ∃ m, ps = [.bool m] := by
  unfold WT at h
  rw [ht] at h
  exact h
theorem wt_str {n : Nat} {t : TypeId} {ps : List PV} {a b : Nat} {z : Option (List PV)} (ht : tys[t]? = some ⟨.str, a, b, z⟩) (h : WT tys (n + 1) t ps) : ∃ m, ps = [.str m] := by
  unfold WT at h
  rw [ht] at h
  obtain ⟨m, hm, _⟩ := h
  exact ⟨m, hm⟩
theorem wt_strct {n : Nat} {t : TypeId} {ps : List PV} {l : List (Nat × Nat × Bool × TypeId)} {a b : Nat} {z : Option (List PV)} (ht : tys[t]? = some ⟨.strct l, a, b, z⟩) (h : WT tys (n + 1) t ps) : ps.length = a ∧ ∀ (i : Nat) x, l[i]? = some x → WT tys n x.2.2.2 ((ps.drop x.1).take x.2.1) := by
  unfold WT at h
  rw [ht] at h
  exact ⟨h.1, fun i x hx => h.2 x (List.mem_of_getElem? hx)⟩
theorem map_of {α : Type} {Q : α → Prop} {e : α → PV} : ∀ {xs : List PV}, (∀ x ∈ xs, ∃ d, Q d ∧ x = e d) → ∃ l : List α, xs = l.map e ∧ ∀ d ∈ l, Q d
  | [], _ => ⟨[], rfl, by simp⟩
  | x :: xs, h => by
    obtain ⟨d, hd, rfl⟩ := h x (List.mem_cons_self ..)
    obtain ⟨l, rfl, hl⟩ := map_of (xs := xs) fun y hy => h y (List.mem_cons_of_mem _ hy)
    refine ⟨d :: l, rfl, fun z hz => ?_⟩
    rcases List.mem_cons.1 hz with rfl | hz
    · exact hd
    · exact hl z hz
theorem wt_sl {α : Type} {Q : α → Prop} {e : α → PV} {n : Nat} {t el s : TypeId} {ps : List PV} {a b c : Nat} {z : Option (List PV)} (ht : tys[t]? = some ⟨.sl el s c, a, b, z⟩) (h : WT tys (n + 1) t ps)
    (he : ∀ cells, WT tys n el cells → ∃ d, Q d ∧ mkE (((tys[el]?).map fun ti => ti.tk.agg).getD false) cells = e d) : ∃ l : List α, ps = [.sl (l.map e)] ∧ l.length ≤ maxLen ∧ ∀ d ∈ l, Q d := by
  unfold WT at h
  rw [ht] at h
  obtain ⟨xs, rfl, hl, hx⟩ := h
  obtain ⟨l, rfl, hq⟩ := map_of (e := e) (Q := Q) (xs := xs) fun x hxm => by
    obtain ⟨_, h2, h3⟩ := hx x hxm
    obtain ⟨d, hd, hde⟩ := he _ h2
    exact ⟨d, hd, h3.trans hde⟩
  exact ⟨l, rfl, by simpa only [List.length_map] using hl, hq⟩
def PfxIn' (p : TPfx) : Prop := 0 ≤ p.addr ∧ p.addr < 4294967296
theorem u32_bounds {m : Int} (h : IntKind.u32.min ≤ m ∧ m ≤ IntKind.u32.max) : 0 ≤ m ∧ m < 4294967296 := by
  have h1 : IntKind.u32.min = 0 := by decide
  have h2 : IntKind.u32.max = 4294967295 := by decide
  rw [h1, h2] at h
  omega
theorem wt_pfx {n : Nat} {cells : List PV} (h : WT tys (n + 2) 47 cells) : ∃ p, PfxIn' p ∧ cells = (ePfx p).cells := by
  obtain ⟨hl, hf⟩ := wt_strct (t := 47) rfl h
  match cells, hl with
  | [c0, c1], _ =>
    obtain ⟨a, ha, hb⟩ := wt_int (t := 41) rfl (hf 0 _ rfl)
    obtain ⟨b, hbb, _⟩ := wt_int (t := 3) rfl (hf 1 _ rfl)
    cases ha; cases hbb
    exact ⟨⟨a, b⟩, u32_bounds hb, rfl⟩
theorem wt_dev {n : Nat} {cells : List PV} (h : WT tys (n + 2) 72 cells) : ∃ d, True ∧ PV.agg cells = eDev d := by
  obtain ⟨hl, hf⟩ := wt_strct (t := 72) rfl h
  match cells, hl with
  | [c0, c1, c2, c3, c4], _ =>
    obtain ⟨x0, h0⟩ := wt_str (t := 9) rfl (hf 0 _ rfl)
    obtain ⟨x1, h1, _⟩ := wt_int (t := 3) rfl (hf 1 _ rfl)
    obtain ⟨x2, h2⟩ := wt_bool (t := 4) rfl (hf 2 _ rfl)
    obtain ⟨x3, h3⟩ := wt_bool (t := 4) rfl (hf 3 _ rfl)
    obtain ⟨x4, h4⟩ := wt_str (t := 9) rfl (hf 4 _ rfl)
    cases h0; cases h1; cases h2; cases h3; cases h4
    exact ⟨⟨x0, x1, x2, x3, x4⟩, trivial, rfl⟩
theorem wt_link {n : Nat} {cells : List PV} (h : WT tys (n + 2) 75 cells) : ∃ d, True ∧ PV.agg cells = eLink d := by
  obtain ⟨hl, hf⟩ := wt_strct (t := 75) rfl h
  match cells, hl with
  | [c0, c1, c2], _ =>
    obtain ⟨x0, h0, _⟩ := wt_int (t := 3) rfl (hf 0 _ rfl)
    obtain ⟨x1, h1, _⟩ := wt_int (t := 3) rfl (hf 1 _ rfl)
    obtain ⟨x2, h2, _⟩ := wt_int (t := 3) rfl (hf 2 _ rfl)
    cases h0; cases h1; cases h2
    exact ⟨⟨x0, x1, x2⟩, trivial, rfl⟩
theorem wt_edge {n : Nat} {cells : List PV} (h : WT tys (n + 3) 49 cells) : ∃ e, PfxIn' e.pfx ∧ PV.agg cells = eEdge e := by
  obtain ⟨hl, hf⟩ := wt_strct (t := 49) rfl h
  match cells, hl with
  | [c0, c1, c2, c3, c4, c5], _ =>
    obtain ⟨x0, h0⟩ := wt_str (t := 9) rfl (hf 0 _ rfl)
    obtain ⟨x1, h1, _⟩ := wt_int (t := 3) rfl (hf 1 _ rfl)
    obtain ⟨x2, h2⟩ := wt_str (t := 9) rfl (hf 2 _ rfl)
    obtain ⟨p, hp, h3⟩ := wt_pfx (hf 3 _ rfl)
    obtain ⟨x5, h5⟩ := wt_bool (t := 4) rfl (hf 4 _ rfl)
    cases h0; cases h1; cases h2; cases h3; cases h5
    exact ⟨⟨x0, x1, x2, p, x5⟩, hp, rfl⟩
structure TRd (t : Topo) : Prop where
  ein : ∀ e ∈ t.edges, PfxIn' e.pfx
  pin : ∀ p ∈ t.pools, PfxIn' p
theorem wt_topo {n : Nat} {cells : List PV} (h : WT tys (n + 5) 33 cells) : ∃ t, TRd t ∧ PV.agg cells = eTopo t := by
  obtain ⟨hl, hf⟩ := wt_strct (t := 33) rfl h
  match cells, hl with
  | [c0, c1, c2, c3, c4], _ =>
    obtain ⟨l0, h0, _, _⟩ := wt_sl (t := 28) (e := eDev) (Q := fun _ => True) rfl (hf 0 _ rfl) fun cells hc => wt_dev hc
    obtain ⟨l1, h1, _, _⟩ := wt_sl (t := 29) (e := eLink) (Q := fun _ => True) rfl (hf 1 _ rfl) fun cells hc => wt_link hc
    obtain ⟨l2, h2, _, q2⟩ := wt_sl (t := 30) (e := eEdge) (Q := fun e => PfxIn' e.pfx) rfl (hf 2 _ rfl) fun cells hc => wt_edge hc
    obtain ⟨l3, h3, _, q3⟩ := wt_sl (t := 31) (e := ePfx) (Q := PfxIn') rfl (hf 3 _ rfl) fun cells hc => by
      obtain ⟨p, hp, rfl⟩ := wt_pfx hc
      exact ⟨p, hp, rfl⟩
    obtain ⟨x4, h4, _⟩ := wt_int (t := 3) rfl (hf 4 _ rfl)
    cases h0; cases h1; cases h2; cases h3; cases h4
    exact ⟨⟨l0, l1, l2, l3, x4⟩, ⟨q2, q3⟩, rfl⟩
theorem wt_ints {n : Nat} {cells : List PV} (h : WT tys (n + 2) 22 cells) : ∃ l : List Int, cells = [.sl (l.map eInt)] ∧ l.length ≤ maxLen := by
  obtain ⟨l, h0, hl, _⟩ := wt_sl (t := 22) (e := eInt) (Q := fun _ => True) rfl h fun cells hc => by
    obtain ⟨m, rfl, _⟩ := wt_int (t := 3) rfl hc
    exact ⟨m, trivial, rfl⟩
  exact ⟨l, h0, hl⟩
end Go.Proofs.YtdehdgbdcfkpbaaGreatDoor
namespace Go.Proofs.YtdehdgbdcfkpbaaGreatDoor
open Go Go.Pw Go.RowKit Go.WideShapes Go.ChangeShapes Go.ChangeAt
theorem ownK : ownKnob Tryz.prog.godebug = none := by kernel_rfl
theorem laidOut : laidOutB Tryz.prog = true := by kernel_rfl
theorem maxLen_cell {W : World} (h : W.ShapedOpen Tryz.prog) : ∃ m, W.cell? ⟨1, 0, none⟩ = some (.int .i64 m) :=
  cell_of_shapedOpen_int (t := 3) (zero := #[.int .i64 0]) h (of_decide_eq_true (by kernel_rfl)) (by kernel_rfl) rfl (by kernel_rfl) (by kernel_rfl) Tryz.underlying3
/-- The variables' blocks, as they stand. -/
theorem gm_of {W : World} (h : W.ShapedOpen Tryz.prog) : 2 ≤ W.heap.size ∧ GM ⟨2, fun b => W.heap[b]?⟩ := by
  obtain ⟨m, hm⟩ := maxLen_cell h
  refine ⟨?_, fun w hw => ⟨m, ?_⟩⟩
  · unfold World.cell? at hm
    split at hm
    · rename_i hh
      exact (Array.getElem?_eq_some_iff.1 hh).1
    · cases hm
  · rw [cell_same (w := W) (hw 1 (show 1 < 2 by decide)) 0]
    exact hm
end Go.Proofs.YtdehdgbdcfkpbaaGreatDoor
namespace Go.Proofs.YtdehdgbdcfkpbaaGreatDoor
open Go Go.Pw
variable {Gl : Glob}
attribute [local irreducible] PW PWL OpP PCalls PWO
set_option maxHeartbeats 20000000

/-! ### prefix.ParseAddr -/
def eU (n : Int) : PV := .int .u32 n
def orB (a b : Int) : Int := IntKind.u32.wrap (BitVec.ofInt 32 a ||| BitVec.ofInt 32 b).toNat
def shlB (a : Int) (n : Nat) : Int := IntKind.u32.wrap (a * 2 ^ n)
def joinA (p : List Int) : Int := orB (orB (orB (shlB (p.getD 0 0) 24) (shlB (p.getD 1 0) 16)) (shlB (p.getD 2 0) 8)) (p.getD 3 0)
def aRun : Str → List Int → Nat → Nat → Option Int
  | [], p, n, d => if n ≠ 3 ∨ d = 0 then none else some (joinA p)
  | c :: s, p, n, d =>
    if c.toNat = 46 then (if d = 0 ∨ n = 3 then none else aRun s p (n + 1) 0)
    else if c.toNat < 48 ∨ c.toNat > 57 then none
    else if 0 < d ∧ p.getD n 0 = 0 then none
    else if 10 * p.getD n 0 + ((c.toNat : Int) - 48) > 255 then none
    else aRun s (p.set n (10 * p.getD n 0 + ((c.toNat : Int) - 48))) n (d + 1)
def addrO (o : Option Int) : Int × Bool := match o with | some v => (v, true) | none => (0, false)
def addr (s : Str) : Int × Bool := addrO (aRun s [0, 0, 0, 0] 0 0)
def addrR (o : Option Int) (r : PV) : Prop := r = .tup [.int .u32 (addrO o).1, .bool (addrO o).2]
theorem eU_get (p : List Int) (n : Nat) (hp : p.length = 4) (hn : n ≤ 3) : (p.map eU)[n]? = some (.int .u32 (p.getD n 0)) := by
  rw [List.getElem?_map, List.getD, List.getElem?_eq_getElem (by omega)]; rfl
theorem eU_set (p : List Int) (n : Nat) (v : Int) (hp : p.length = 4) (hn : n ≤ 3) : splice (p.map eU) n [.int .u32 v] = (p.set n v).map eU := by
  apply List.ext_getElem?
  intro j
  rw [splice, splice_get _ _ _ _ (by simp; omega), List.map_set, List.getElem?_set]
  by_cases h : n = j
  · subst h; simp [eU]; omega
  · rw [if_neg (by simp; omega), if_neg h]
theorem c129 (s : Str) (hl : Small s) : PFun Tryz.prog Gl 129 [.str s] fun r => addrR (aRun s [0, 0, 0, 0] 0 0) r := by
  refine PFun.of hT Tryz.func129 rfl fun B hD => ?_
  refine pw_norm rfl ?_
  unfold Small at hl
  (refine zGo ?_)
  refine pw_scope ?_ (fun l env st h => h)
  (refine zGo ?_)
  refine pw_label ?_
  (refine zGo ?_)
  refine pw_for hD (fun a : Nat × List Int × Nat × Nat => [(7, .int .i64 a.1), (5, .int .i64 a.2.2.1), (6, .int .i64 a.2.2.2)]) (fun a => [.box (a.2.1.map eU)])
    (fun a => aRun (s.drop a.1) a.2.1 a.2.2.1 a.2.2.2 = aRun s [0, 0, 0, 0] 0 0 ∧ a.1 ≤ s.length ∧ a.2.1.length = 4 ∧ (∀ v ∈ a.2.1, 0 ≤ v ∧ v ≤ 255) ∧ a.2.2.1 ≤ 3 ∧ a.2.2.2 ≤ a.1) (fun a => s.length - a.1) (0, [0, 0, 0, 0], 0, 0) ⟨rfl, Nat.zero_le _, rfl, by decide, by decide, by decide⟩ 1 rfl (fun _ => rfl)
    (by (exact zLes)) (fun _ => rfl) (fun a => by simp [PObj.refs, PV.refs, eU]) (by (exact zLe)) ?_
  rintro ⟨i, p, n, d⟩ ⟨hw, hi, hp, hv, hn, hd⟩
  dsimp only
  have hi : i ≤ s.length := hi
  have hp : p.length = 4 := hp
  have hn : n ≤ 3 := hn
  have hd : d ≤ i := hd
  have hw : aRun (s.drop i) p n d = aRun s [0, 0, 0, 0] 0 0 := hw
  have hgp : 0 ≤ p.getD n 0 ∧ p.getD n 0 ≤ 255 := by
    have hlt : n < p.length := by omega
    rw [List.getD, List.getElem?_eq_getElem hlt]
    exact hv _ (List.getElem_mem hlt)
  have hget := eU_get p n hp hn
  (refine zGo ?_)
  refine pw_cond rfl (fun h => ?_) (fun h => ?_)
  · simp only [decide_eq_true_eq] at h
    have hlt : i < s.length := by omega
    rw [List.drop_eq_getElem_cons hlt] at hw
    simp only [aRun] at hw
    (refine zGo ?_)
    (refine pl_op rfl (op_of (v_indexs (c := s[i]) hT rfl rfl rfl rfl (by omega) (by simp [hlt])) ?_); (refine zNp ?_))
    (refine zGo ?_)
    refine pw_cond rfl (fun h1 => ?_) (fun h1 => ?_)
    · have hc : s[i].toNat = 46 := by simp at h1; omega
      rw [if_pos hc] at hw
      (refine zGo ?_)
      (refine pl_or 3 23 26 ((n : Int) == 3) rfl rfl rfl (fun hb => ?_) (fun hb => ?_) ?_; (focus ((refine zNp ?_); (refine zGo ?_); exact ⟨by (exact zLe), StLe.refl _⟩)); (focus ((refine zNp ?_); (refine zGo ?_); exact ⟨by (exact zLe), StLe.refl _⟩)); (refine zNp ?_); (refine zGo ?_))
      refine pw_cond rfl (fun h2 => ?_) (fun h2 => ?_)
      · rw [if_pos (by simp at h2; omega)] at hw
        (refine zGo ?_)
        refine ret1 _ rfl ?_ rfl
        rw [← hw]; rfl
      · have h2' : ¬ d = 0 ∧ ¬ n = 3 := by simp at h2; omega
        rw [if_neg (by omega)] at hw
        (refine zGo ?_)
        refine ⟨(i + 1, p, n + 1, 0), ⟨hw, by show i + 1 ≤ _; omega, hp, hv, by show n + 1 ≤ 3; omega, by show 0 ≤ i + 1; omega⟩, by show _ - (i + 1) < _ - i; omega, by (exact zLe), by (exact zLes)⟩
    · have hc : ¬ s[i].toNat = 46 := by simp at h1; omega
      rw [if_neg hc] at hw
      (refine zGo ?_)
      (refine pl_or 3 32 35 (decide ((s[i].toNat : Int) > 57)) rfl rfl rfl (fun hb => ?_) (fun hb => ?_) ?_; (focus ((refine zNp ?_); (refine zGo ?_); exact ⟨by (exact zLe), StLe.refl _⟩)); (focus ((refine zNp ?_); (refine zGo ?_); exact ⟨by (exact zLe), StLe.refl _⟩)); (refine zNp ?_); (refine zGo ?_))
      refine pw_cond rfl (fun h2 => ?_) (fun h2 => ?_)
      · rw [if_pos (by simp at h2; omega)] at hw
        (refine zGo ?_)
        refine ret1 _ rfl ?_ rfl
        rw [← hw]; rfl
      · have h2' : 48 ≤ s[i].toNat ∧ s[i].toNat ≤ 57 := by simp at h2; omega
        rw [if_neg (by omega)] at hw
        (refine zGo ?_)
        (refine pl_and 5 39 44 (p.getD n 0 == 0) rfl rfl rfl (fun hb => ?_) (fun hb => ?_) ?_; (focus ((refine zNp ?_); (refine zGo ?_); (refine pl_on rfl rfl (op_of (v_indexA hT rfl rfl rfl rfl (by omega) (by omega)) ?_); (refine zNp ?_)); (refine pl_on rfl rfl (op_loadA (x := .int .u32 (p.getD n 0)) hT rfl rfl rfl rfl rfl rfl (by simpa using hget) ?_); (refine zNp ?_)); (refine zGo ?_); exact ⟨by (exact zLe), StLe.refl _⟩)); (focus ((refine zNp ?_); (refine zGo ?_); exact ⟨by (exact zLe), StLe.refl _⟩)); (refine zNp ?_); (refine zGo ?_))
        refine pw_cond rfl (fun h3 => ?_) (fun h3 => ?_)
        · rw [if_pos (by simp only [Bool.and_eq_true, decide_eq_true_eq, beq_iff_eq] at h3; omega)] at hw
          (refine zGo ?_)
          refine ret1 _ rfl ?_ rfl
          rw [← hw]; rfl
        · rw [if_neg (by simp only [Bool.and_eq_false_iff, decide_eq_false_iff_not, beq_eq_false_iff_ne] at h3; omega)] at hw
          (refine zGo ?_)
          (refine pl_op rfl (op_of (v_indexA hT rfl rfl rfl rfl (by omega) (by omega)) ?_); (refine zNp ?_))
          (refine pl_op rfl (op_loadA (x := .int .u32 (p.getD n 0)) hT rfl rfl rfl rfl rfl rfl (by simpa using hget) ?_); (refine zNp ?_))
          (refine pl_op rfl (op_of (v_arith rfl rfl rfl rfl (IntWalk.u32_in _ (by omega))) ?_); (refine zNp ?_))
          (refine zGo ?_)
          (refine pl_op rfl (op_of (v_arith rfl rfl rfl rfl (IntWalk.u8_in _ (by omega))) ?_); (refine zNp ?_))
          (refine pl_op rfl (op_of (v_conv hT rfl rfl rfl rfl (IntWalk.u32_in _ (by omega))) ?_); (refine zNp ?_))
          (refine pl_op rfl (op_of (v_arith rfl rfl rfl rfl (IntWalk.u32_in _ (by omega))) ?_); (refine zNp ?_))
          (refine pl_op rfl (op_of (v_indexA hT rfl rfl rfl rfl (by omega) (by omega)) ?_); (refine zNp ?_))
          refine pl_op rfl (op_storeA (p := .int .u32 (10 * p.getD n 0 + ((s[i].toNat : Int) - 48))) (cs' := (p.set n (10 * p.getD n 0 + ((s[i].toNat : Int) - 48))).map eU) hT rfl rfl rfl rfl rfl rfl rfl rfl (by simp; omega) (by simpa [PV.cells] using eU_set p n (10 * p.getD n 0 + ((s[i].toNat : Int) - 48)) hp hn) ?_)
          (refine zNp ?_)
          (refine zGo ?_)
          have hp2 : (p.set n (10 * p.getD n 0 + ((s[i].toNat : Int) - 48))).length = 4 := by simp [hp]
          have hget2 := eU_get (p.set n (10 * p.getD n 0 + ((s[i].toNat : Int) - 48))) n hp2 hn
          have hval : (p.set n (10 * p.getD n 0 + ((s[i].toNat : Int) - 48))).getD n 0 = 10 * p.getD n 0 + ((s[i].toNat : Int) - 48) := by
            rw [List.getD, List.getElem?_set_self (by omega)]; rfl
          rw [hval] at hget2
          (refine pl_op rfl (op_of (v_indexA hT rfl rfl rfl rfl (by omega) (by omega)) ?_); (refine zNp ?_))
          (refine pl_op rfl (op_loadA (x := .int .u32 (10 * p.getD n 0 + ((s[i].toNat : Int) - 48))) hT rfl rfl rfl rfl rfl rfl (by simpa using hget2) ?_); (refine zNp ?_))
          (refine zGo ?_)
          refine pw_cond rfl (fun h4 => ?_) (fun h4 => ?_)
          · rw [if_pos (by simpa using h4)] at hw
            (refine zGo ?_)
            refine ret1 _ rfl ?_ rfl
            rw [← hw]; rfl
          · rw [if_neg (by simpa using h4)] at hw
            (refine zGo ?_)
            refine ⟨(i + 1, p.set n (10 * p.getD n 0 + ((s[i].toNat : Int) - 48)), n, d + 1), ⟨hw, by show i + 1 ≤ _; omega, hp2, fun v hvm => ?_, hn, by show d + 1 ≤ i + 1; omega⟩, by show _ - (i + 1) < _ - i; omega, by (exact zLe), by (exact zLes)⟩
            rcases List.mem_or_eq_of_mem_set hvm with h5 | h5
            · exact hv v h5
            · have := of_decide_eq_false h4
              omega
  · simp only [decide_eq_false_iff_not] at h
    have hie : i = s.length := by omega
    subst hie
    rw [List.drop_length] at hw
    simp only [aRun] at hw
    (refine zGo ?_)
    (refine pl_or 3 63 66 ((d : Int) == 0) rfl rfl rfl (fun hb => ?_) (fun hb => ?_) ?_; (focus ((refine zNp ?_); (refine zGo ?_); exact ⟨by (exact zLe), StLe.refl _⟩)); (focus ((refine zNp ?_); (refine zGo ?_); exact ⟨by (exact zLe), StLe.refl _⟩)); (refine zNp ?_); (refine zGo ?_))
    refine pw_cond rfl (fun h1 => ?_) (fun h1 => ?_)
    · rw [if_pos (by simp only [Bool.or_eq_true, bne_iff_ne, beq_iff_eq] at h1; omega)] at hw
      (refine zGo ?_)
      refine ret1 _ rfl ?_ rfl
      rw [← hw]; rfl
    · rw [if_neg (by simp only [Bool.or_eq_false_iff, bne_eq_false_iff_eq, beq_eq_false_iff_ne] at h1; omega)] at hw
      (refine zGo ?_)
      obtain ⟨a, b, c, e, rfl⟩ : ∃ a b c e, p = [a, b, c, e] := by
        match p, hp with
        | [a, b, c, e], _ => exact ⟨a, b, c, e, rfl⟩
      (refine zNp ?_)
      (refine pl_op rfl (op_of (v_indexA hT rfl rfl rfl rfl (by omega) (by omega)) ?_); (refine zNp ?_))
      (refine zGo ?_)
      (refine pl_op rfl (op_of (v_shl rfl rfl rfl (by omega) rfl) ?_); (refine zNp ?_))
      (refine pl_op rfl (op_of (v_indexA hT rfl rfl rfl rfl (by omega) (by omega)) ?_); (refine zNp ?_))
      (refine zGo ?_)
      (refine pl_op rfl (op_of (v_shl rfl rfl rfl (by omega) rfl) ?_); (refine zNp ?_))
      (refine pl_op rfl (op_of (v_bits rfl rfl rfl rfl rfl) ?_); (refine zNp ?_))
      (refine pl_op rfl (op_of (v_indexA hT rfl rfl rfl rfl (by omega) (by omega)) ?_); (refine zNp ?_))
      (refine zGo ?_)
      (refine pl_op rfl (op_of (v_shl rfl rfl rfl (by omega) rfl) ?_); (refine zNp ?_))
      (refine pl_op rfl (op_of (v_bits rfl rfl rfl rfl rfl) ?_); (refine zNp ?_))
      (refine pl_op rfl (op_of (v_indexA hT rfl rfl rfl rfl (by omega) (by omega)) ?_); (refine zNp ?_))
      (refine zGo ?_)
      (refine pl_op rfl (op_of (v_bits rfl rfl rfl rfl rfl) ?_); (refine zNp ?_))
      (refine zGo ?_)
      refine ret1 _ rfl ?_ rfl
      rw [← hw]; rfl
end Go.Proofs.YtdehdgbdcfkpbaaGreatDoor
