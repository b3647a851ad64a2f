/-
  Contracts of functions, walked over pure values.
-/
import Derived.Test.YtdehdgbdcfkpbaaGreatDoorKA7
import Derived.Test.YtdehdgbdcfkpbaaGreatDoorKD2
import Derived.Test.YtdehdgbdcfkpbaaGreatDoorKC3
import Derived.Test.YtdehdgbdcfkpbaaGreatDoorKC5
import Derived.Test.YtdehdgbdcfkpbaaGreatDoorJPwLoop
import Derived.KernelRfl
import Derived.Test.YtdehdgbdcfkpbaaGreatDoorKC8
namespace Go.Proofs.YtdehdgbdcfkpbaaGreatDoor
open Go Go.Pw
variable {Gl : Glob}
attribute [local irreducible] PW PWL OpP PCalls PWO
set_option maxHeartbeats 20000000
set_option maxRecDepth 100000

/-! ### sane -/
theorem c18 (hG : GM Gl) : PFun Tryz.prog Gl 18 [] fun r => r = .bool true := by
  refine PFun.of hT Tryz.func18 rfl fun B hD => ?_
  refine pw_norm rfl ?_
  have e1 : PFun Tryz.prog Gl 26 [.str sane1] fun r => r = .tup [eTopo saneT, .int .i64 0, .int .i64 0] := by have := c26 hG sane1 (lines_ok _) (Gl := Gl); rw [sane1_is] at this; exact this
  have e2 : PFun Tryz.prog Gl 26 [.str sane2] fun r => r = .tup [eTopo topo0, .int .i64 2, .int .i64 2] := by have := c26 hG sane2 (lines_ok _) (Gl := Gl); rw [sane2_is] at this; exact this
  have e3 : PFun Tryz.prog Gl 39 [eTopo saneT] fun r => r = .bool true := by have := c39 (Gl := Gl) saneT; rw [saneT_complete] at this; exact this
  have e4 : PFun Tryz.prog Gl 24 [eTopo saneT, .int .u32 167772165] fun r => r = .int .i64 0 := by have := c24 (Gl := Gl) saneT 167772165 (by unfold Small; decide); rw [saneT_at] at this; exact this
  (refine zGo ?_)
  (refine pl_op rfl (op_fun (e1) rfl rfl e26 zLe rfl (fun r hr => ?_)); subst hr; refine ⟨rfl, ?_⟩; (refine zNp ?_))
  (refine zGo ?_)
  (refine pl_op rfl (op_fun (e2) rfl rfl e26 zLe rfl (fun r hr => ?_)); subst hr; refine ⟨rfl, ?_⟩; (refine zNp ?_))
  (refine zGo ?_)
  (refine pl_on rfl rfl (op_of (v_index (p := eLink ⟨0, 1, 3⟩) hT rfl rfl rfl rfl (by decide) rfl rfl) ?_); (refine zNp ?_))
  (refine zGo ?_)
  (refine pl_on rfl rfl (op_of (v_eqS (r := true) hT rfl rfl rfl (by kernel_rfl) rfl) ?_); (refine zNp ?_))
  (refine zGo ?_)
  (refine pl_on rfl rfl (op_fun (e3) rfl rfl e39 zLe rfl (fun r hr => ?_)); subst hr; refine ⟨rfl, ?_⟩; (refine zNp ?_))
  (refine zGo ?_)
  (refine pl_on rfl rfl (op_fun (e4) rfl rfl e24 zLe rfl (fun r hr => ?_)); subst hr; refine ⟨rfl, ?_⟩; (refine zNp ?_))
  (refine zGo ?_)
  exact ret1 _ rfl rfl rfl
/-! ### finds -/
theorem idxs_small {α : Type} {p : α → Bool} {l : List α} (h : Small l) : Small (idxs p l) := by
  have := selTo_len p l l.length
  unfold Small idxs at *
  omega
structure EIn (t : Topo) : Prop where
  edges : ∀ e ∈ t.edges, PfxIn e.pfx
theorem at_eq {t : Topo} (h : EIn t) {a : Int} (ha : 0 ≤ a ∧ a < 4294967296) : rAt t a = tAt t a := by
  unfold rAt tAt firstAt
  have : ∀ l : List TEdge, (∀ e ∈ l, PfxIn e.pfx) → l.findIdx? (fun d => !d.planned && rcont d.pfx a) = l.findIdx? (fun d => !d.planned && pcont d.pfx a) := by
    intro l
    induction l with
    | nil => intro _; rfl
    | cons e l ih =>
      intro hl
      rw [List.findIdx?_cons, List.findIdx?_cons, cont_eq e.pfx a (hl e (List.mem_cons_self ..)) ha, ih fun x hx => hl x (List.mem_cons_of_mem _ hx)]
  rw [this t.edges h.edges]
theorem c29 (t : Topo) (ht : TOk t) (hin : EIn t) (name : Str) (a n : Int) (ha : 0 ≤ a ∧ a < 4294967296) : PFun Tryz.prog Gl 29 [eTopo t, .str name, .int .u32 a, .int .i64 n] fun r => r = .bool true := by
  refine PFun.of hT Tryz.func29 rfl fun B hD => ?_
  refine pw_norm rfl ?_
  have hra : PFun Tryz.prog Gl 67 [eTopo t, .int .u32 a] fun r => r = .int .i64 (tAt t a) := by have := c67 (Gl := Gl) t a ht.edges; rw [at_eq hin ha] at this; exact this
  (refine zGo ?_)
  refine pw_draw [(0, true), (1, true), (3, true), (4, true), (2, false), (5, false), (6, true), (7, true), (8, true), (9, true), (11, true), (12, true), (10, false), (13, false), (14, true), (15, true), (16, true), (17, true), (18, true), (20, true), (21, true), (19, false), (22, false), (23, true), (24, true), (25, true), (26, true), (27, true), (29, true), (30, true), (28, false), (31, false), (32, false), (33, true), (34, true), (35, true), (36, true), (38, true), (39, true), (37, false), (40, false), (41, false), (42, true), (43, true)] hmix (by decide +kernel) ?_
  (refine zDgo ?_)
  (refine po_step rfl rfl (op_fun (c41 t name ht.devs) rfl rfl e41 zLe rfl (fun r hr => ?_)); subst hr; refine ⟨rfl, zLok, ?_⟩; refine zDn ?_)
  (refine zDgo ?_)
  (refine po_step rfl rfl (op_fun (c66 t name ht.devs) rfl rfl e66 zLe rfl (fun r hr => ?_)); subst hr; refine ⟨rfl, zLok, ?_⟩; refine zDn ?_)
  (refine zDgo ?_)
  refine po_split 16 rfl (fun h => ?_) (fun h => ?_)
  · (refine zDgo ?_)
    (refine po_on rfl rfl rfl (op_fun (c43 t name ht.edges) rfl rfl e43 zLe rfl (fun r hr => ?_)); subst hr; refine ⟨rfl, zLok, ?_⟩; refine zDn ?_)
    (refine zDgo ?_)
    (refine po_on rfl rfl rfl (op_fun (c50 t name ht.edges) rfl rfl e50 zLe rfl (fun r hr => ?_)); subst hr; refine ⟨rfl, zLok, ?_⟩; refine zDn ?_)
    (refine zDgo ?_)
    refine po_split 25 rfl (fun h2 => ?_) (fun h2 => ?_)
    · (refine zDgo ?_)
      (refine po_on rfl rfl rfl (op_fun (c24 t a ht.edges) rfl rfl e24 zLe rfl (fun r hr => ?_)); subst hr; refine ⟨rfl, zLok, ?_⟩; refine zDn ?_)
      (refine zDgo ?_)
      (refine po_on rfl rfl rfl (op_fun (hra) rfl rfl e67 zLe rfl (fun r hr => ?_)); subst hr; refine ⟨rfl, zLok, ?_⟩; refine zDn ?_)
      (refine zDgo ?_)
      refine po_split 34 rfl (fun h3 => ?_) (fun h3 => ?_)
      · (refine zDgo ?_)
        (refine po_on rfl rfl rfl (op_fun (c69 t n ht.edges) rfl rfl e69 zLe rfl (fun r hr => ?_)); subst hr; refine ⟨rfl, zLok, ?_⟩; refine zDn ?_)
        (refine zDgo ?_)
        (refine po_on rfl rfl rfl (op_fun (c70 t n ht.edges) rfl rfl e70 zLe rfl (fun r hr => ?_)); subst hr; refine ⟨rfl, zLok, ?_⟩; refine zDn ?_)
        (refine zDgo ?_)
        (refine po_on rfl rfl rfl (op_fun (c68 (tEdges t n) (tEdges t n) (idxs_small ht.edges)) rfl rfl e68 zLe rfl (fun r hr => ?_)); subst hr; refine ⟨rfl, zLok, ?_⟩; refine zDn ?_)
        (refine zDgo ?_)
        refine po_split 43 rfl (fun h4 => ?_) (fun h4 => ?_)
        · (refine zDgo ?_)
          (refine po_on rfl rfl rfl (op_fun (c71 t name ht.edges) rfl rfl e71 zLe rfl (fun r hr => ?_)); subst hr; refine ⟨rfl, zLok, ?_⟩; refine zDn ?_)
          (refine zDgo ?_)
          (refine po_on rfl rfl rfl (op_fun (c72 t name ht.edges) rfl rfl e72 zLe rfl (fun r hr => ?_)); subst hr; refine ⟨rfl, zLok, ?_⟩; refine zDn ?_)
          (refine zDgo ?_)
          (refine po_on rfl rfl rfl (op_fun (c68 (tZone t name) (tZone t name) (idxs_small ht.edges)) rfl rfl e68 zLe rfl (fun r hr => ?_)); subst hr; refine ⟨rfl, zLok, ?_⟩; refine zDn ?_)
          (refine zDgo ?_)
          (refine zGo ?_)
          exact ret1 _ rfl (by simp) rfl
        · exact absurd h4 (by simp)
      · exact absurd h3 (by simp)
    · exact absurd h2 (by simp)
  · exact absurd h (by simp [tDevice])
end Go.Proofs.YtdehdgbdcfkpbaaGreatDoor
namespace Go.Proofs.YtdehdgbdcfkpbaaGreatDoor
open Go Go.Pw
variable {Gl : Glob}
attribute [local irreducible] PW PWL OpP PCalls PWO
set_option maxHeartbeats 20000000
set_option maxRecDepth 100000

/-! ### draw -/
theorem subnets_at (i : Nat) : PfxIn (subnets.getD i ⟨0, 0⟩) := by
  rw [List.getD]
  cases h : subnets[i]? with
  | none => exact ⟨by decide, by decide⟩
  | some p => exact subnets_in (List.mem_of_getElem? h)
theorem pool1_in : PfxIn pool1 := ⟨by decide, by decide⟩
theorem pool2_in : PfxIn pool2 := ⟨by decide, by decide⟩
theorem TGen.fit {m : Nat} {t : Topo} (h : TGen m t) (hm : m ≤ 6) : Fit 10 t := by
  refine ⟨by have := h.dl; omega, by have := h.ll; omega, by have := h.el; omega, ?_, fun e he => ?_, ?_⟩
  · rcases h.pools with hp | hp | hp | hp <;> rw [hp] <;> decide
  · obtain ⟨i, hi⟩ := List.mem_iff_getElem?.1 he
    rw [(h.edges i e hi).pfx]
    exact subnets_at i
  · intro p hp
    rcases h.pools with h2 | h2 | h2 | h2 <;> rw [h2] at hp <;> simp at hp
    · rw [hp]; exact pool1_in
    · rw [hp]; exact pool2_in
    · rcases hp with hp | hp <;> rw [hp]
      · exact pool1_in
      · exact pool2_in
theorem plBits_in {b : Int} (_ : b ∈ plBits) : PfxIn ⟨0, b⟩ := ⟨by show (0 : Int) ≤ 0; decide, by show (0 : Int) < 4294967296; decide⟩
theorem PGen.fit {m : Nat} {t : Topo} (h : PGen m t) (hm : m ≤ 6) : Fit 10 t := by
  refine ⟨by have := h.dl; omega, by have := h.ll; omega, by have := h.el; omega, ?_, fun e he => ?_, ?_⟩
  · rcases h.pools with hp | hp | hp <;> rw [hp] <;> decide
  · obtain ⟨i, hi⟩ := List.mem_iff_getElem?.1 he
    rcases (h.edges i e hi).pfx with ⟨_, h2⟩ | ⟨_, b, hb, h2⟩
    · rw [h2]; exact subnets_at i
    · rw [h2]; exact plBits_in hb
  · intro p hp
    rcases h.pools with h2 | h2 | h2 <;> rw [h2] at hp <;> simp at hp
    · rw [hp]; exact pool1_in
    · rw [hp]; exact pool2_in
    · rcases hp with hp | hp <;> rw [hp]
      · exact pool1_in
      · exact pool2_in
theorem c19 (l : List Int) (hl : Tp l) (j : Nat) (hj : j ≤ l.length) : PCalls Tryz.prog Gl 19 [.ptr 0 0] [tape l j] (SpPost l 11) := by
  refine PCalls.of hT Tryz.func19 rfl 1 (Nat.le_of_ble_eq_true rfl) fun B hD => ?_
  refine pw_norm rfl ?_
  (refine zGo ?_)
  (refine pl_op rfl (op_call [0] rfl rfl e12 (by decide) rfl rfl rfl zLe zLes (c12 l hl j hj 4 (by decide) (by decide)) (fun r s hq => ?_)); obtain ⟨j1, t, c, ⟨m, hmn, hg⟩, hj1, rfl, rfl⟩ := hq; refine ⟨rfl, rfl, ?_⟩; (refine zNp ?_))
  (refine zGo ?_)
  (refine pl_op rfl (op_call [0] rfl rfl e13 (by decide) rfl rfl rfl zLe zLes (c13n l hl j1 hj1 3 (by decide) (by decide)) (fun r s hq => ?_)); obtain ⟨j2, ⟨k2, hk2, rfl⟩, hj2, rfl⟩ := hq; refine ⟨rfl, rfl, ?_⟩; (refine zNp ?_))
  (refine zGo ?_)
  refine pw_cond rfl (fun h => ?_) (fun h => ?_)
  · (refine zGo ?_)
    (refine pl_op rfl (op_call [0] rfl rfl e14 (by decide) rfl rfl rfl zLe zLes (c14 l hl j2 hj2 4 (by decide) (by decide)) (fun r s hq => ?_)); obtain ⟨j3, t2, c2, ⟨m2, hmn2, hg2⟩, hj3, rfl, rfl⟩ := hq; refine ⟨rfl, rfl, ?_⟩; (refine zNp ?_))
    (refine zGo ?_)
    have hf : Fit 10 t2 := hg2.fit (by omega)
    refine pl_freeze (fun i => decide (12 ≤ i)) (st' := [tape l j3, gbox, .dead, .dead, .dead, .dead, .dead, .dead, .box (eTopo t2).cells, .dead, .dead, .dead, .dead, .dead, .dead, .dead]) ?_ ?_
    · exact ⟨.inr (.inl rfl), .inr (.inl rfl), .inl rfl, .inl rfl, .inl rfl, .inl rfl, .inl rfl, .inl rfl, .inr (.inr ⟨_, _, rfl, rfl, by (repeat (first | trivial | refine ⟨.inr (.inl rfl), ?_⟩ | refine ⟨.inr (.inr (.inl ⟨rfl, rfl⟩)), ?_⟩ | refine ⟨.inr (.inr (.inr (.inl ⟨_, _, _, _, _, _, rfl, rfl, rfl, rfl, rfl⟩))), ?_⟩))⟩), .inl rfl, .inl rfl, .inl rfl, rfl, rfl, rfl, rfl, trivial⟩
    (refine zNp ?_)
    (refine pl_op rfl (op_call [0] rfl rfl e13 (by decide) rfl rfl rfl zLe zLes (c13n l hl j3 hj3 3 (by decide) (by decide)) (fun r s hq => ?_)); obtain ⟨j4, ⟨k4, hk4, rfl⟩, hj4, rfl⟩ := hq; refine ⟨rfl, rfl, ?_⟩; (refine zNp ?_))
    (refine zGo ?_)
    refine pw_cond rfl (fun h2 => ?_) (fun h2 => ?_)
    · (refine zGo ?_)
      (refine pl_op rfl (op_call [0] rfl rfl e33 (by decide) rfl rfl rfl zLe zLes (c33 l hl j4 hj4 t2 10 (by decide) hf) (fun r s hq => ?_)); obtain ⟨j5, t3, hf3, rfl, hj5, rfl⟩ := hq; refine ⟨rfl, rfl, ?_⟩; (refine zNp ?_))
      (refine zGo ?_)
      exact ⟨_, _, [tape l j5], rfl, ⟨j5, t3, hf3, rfl, hj5, rfl⟩, .inr (.inl rfl), ⟨.inr (.inl rfl), trivial⟩, rfl, rfl⟩
    · (refine zGo ?_)
      exact ⟨_, _, [tape l j4], rfl, ⟨j4, t2, hf.up, rfl, hj4, rfl⟩, .inr (.inl rfl), ⟨.inr (.inl rfl), trivial⟩, rfl, rfl⟩
  · have hf : Fit 10 t := hg.fit (by omega)
    (refine zGo ?_)
    refine pl_freeze (fun i => decide (4 ≤ i) && decide (i < 8)) (st' := [tape l j2, gbox, .dead, .dead, .dead, .dead, .dead, .dead, .box (eTopo t).cells]) ?_ ?_
    · exact ⟨.inr (.inl rfl), .inr (.inl rfl), .inl rfl, .inl rfl, rfl, rfl, rfl, rfl, .inr (.inr ⟨_, _, rfl, rfl, by (repeat (first | trivial | refine ⟨.inr (.inl rfl), ?_⟩ | refine ⟨.inr (.inr (.inl ⟨rfl, rfl⟩)), ?_⟩ | refine ⟨.inr (.inr (.inr (.inl ⟨_, _, _, _, _, _, rfl, rfl, rfl, rfl, rfl⟩))), ?_⟩))⟩), trivial⟩
    (refine zNp ?_)
    (refine pl_op rfl (op_call [0] rfl rfl e13 (by decide) rfl rfl rfl zLe zLes (c13n l hl j2 hj2 3 (by decide) (by decide)) (fun r s hq => ?_)); obtain ⟨j4, ⟨k4, hk4, rfl⟩, hj4, rfl⟩ := hq; refine ⟨rfl, rfl, ?_⟩; (refine zNp ?_))
    (refine zGo ?_)
    refine pw_cond rfl (fun h2 => ?_) (fun h2 => ?_)
    · (refine zGo ?_)
      (refine pl_op rfl (op_call [0] rfl rfl e33 (by decide) rfl rfl rfl zLe zLes (c33 l hl j4 hj4 t 10 (by decide) hf) (fun r s hq => ?_)); obtain ⟨j5, t3, hf3, rfl, hj5, rfl⟩ := hq; refine ⟨rfl, rfl, ?_⟩; (refine zNp ?_))
      (refine zGo ?_)
      exact ⟨_, _, [tape l j5], rfl, ⟨j5, t3, hf3, rfl, hj5, rfl⟩, .inr (.inl rfl), ⟨.inr (.inl rfl), trivial⟩, rfl, rfl⟩
    · (refine zGo ?_)
      exact ⟨_, _, [tape l j4], rfl, ⟨j4, t, hf.up, rfl, hj4, rfl⟩, .inr (.inl rfl), ⟨.inr (.inl rfl), trivial⟩, rfl, rfl⟩
/-! ### the law -/
def names9 : List Str := [[114, 49], [114, 50], [101, 49], [101, 51], [108, 97, 110], [100, 109, 122], [110, 101, 116], [110, 111, 119, 104, 101, 114, 101], []]
theorem huge_ok {x : Topo} (h : huge x = false) : TOk x := by
  simp only [huge, Bool.or_eq_false_iff, decide_eq_false_iff_not] at h
  exact ⟨by unfold Small; omega, by unfold Small; omega, by unfold Small; omega, by unfold Small; omega⟩
theorem c6 (hG : GM Gl) (l : List Int) (hl : Tp l) (x : Topo) (hx : EIn x) (name : Str) (a n : Int) (ha : 0 ≤ a ∧ a < 4294967296) : PFun Tryz.prog Gl 6 [.sl (l.map eInt), eTopo x, .str name, .int .u32 a, .int .i64 n] fun r => r = .bool true := by
  refine PFun.of hT Tryz.func6 rfl fun B hD => ?_
  refine pw_norm rfl ?_
  (refine zGo ?_)
  (refine pl_op rfl (op_call [] rfl rfl e10 (by decide) rfl rfl rfl zLe zLes (c10 l) (fun r s hq => ?_)); obtain ⟨rfl, rfl⟩ := hq; refine ⟨rfl, rfl, ?_⟩; (refine zNp ?_))
  (refine zGo ?_)
  refine pw_for hD (fun i : Nat × Nat => [(13, .int .i64 i.1)]) (fun i => [.box (eTopo x).cells, tape l i.2]) (fun i => i.1 ≤ 6 ∧ i.2 ≤ l.length) (fun i => 6 - i.1) (0, 0) ⟨Nat.zero_le _, Nat.zero_le _⟩ 2 rfl (fun _ => rfl) (by (exact zLes)) (fun _ => rfl) (fun _ => rfl) (by (exact zLe)) ?_
  rintro ⟨i, j⟩ ⟨hi, hj⟩
  dsimp only at hi hj ⊢
  (refine zGo ?_)
  refine pw_cond rfl (fun h => ?_) (fun h => ?_)
  · have hi6 : i < 6 := by simp at h; omega
    (refine zGo ?_)
    refine pw_draw [(0, true), (2, true), (3, true), (7, true), (9, true), (1, false), (4, false), (5, true), (6, true), (8, false), (10, false), (11, true), (12, false), (13, true)] hmix (by decide +kernel) ?_
    (refine zDgo ?_)
    (refine po_step rfl rfl (op_call [1] rfl rfl e19 (by decide) rfl rfl rfl zLe zLes (c19 l hl j hj) (fun r s hq => ?_)); obtain ⟨j1, t, hf, rfl, hj1, rfl⟩ := hq; refine ⟨rfl, rfl, zLok, ?_⟩; refine zDn ?_)
    (refine zDgo ?_)
    (refine po_step rfl rfl (op_call [1] rfl rfl e13 (by decide) rfl rfl rfl zLe zLes (c13n l hl j1 hj1 9 (by decide) (by decide)) (fun r s hq => ?_)); obtain ⟨j2, ⟨k2, hk2, rfl⟩, hj2, rfl⟩ := hq; refine ⟨rfl, rfl, zLok, ?_⟩; refine zDn ?_)
    (refine zDgo ?_)
    (refine po_val rfl rfl (v_index (p := .str (names9.getD k2 [])) hT rfl rfl rfl rfl (by omega) (lit_at .str names9 k2 [] hk2) rfl) ?_; refine zDn ?_)
    (refine zDgo ?_)
    (refine po_step rfl rfl (op_call [1] rfl rfl e22 (by decide) rfl rfl rfl zLe zLes (c22 l hl j2 hj2) (fun r s hq => ?_)); obtain ⟨j3, ⟨b, hb, rfl⟩, hj3, rfl⟩ := hq; refine ⟨rfl, rfl, zLok, ?_⟩; refine zDn ?_)
    (refine zDgo ?_)
    (refine po_step rfl rfl (op_call [1] rfl rfl e13 (by decide) rfl rfl rfl zLe zLes (c13n l hl j3 hj3 6 (by decide) (by decide)) (fun r s hq => ?_)); obtain ⟨j4, ⟨k4, hk4, rfl⟩, hj4, rfl⟩ := hq; refine ⟨rfl, rfl, zLok, ?_⟩; refine zDn ?_)
    (refine zDgo ?_)
    (refine po_step rfl rfl (op_fun (c29 t (hf.ok (by decide)) ⟨hf.ein⟩ (names9.getD k2 []) b ((k4 : Int) - 1) hb) rfl rfl e29 zLe rfl (fun r hr => ?_)); subst hr; refine ⟨rfl, zLok, ?_⟩; refine zDn ?_)
    (refine zDgo ?_)
    (refine zGo ?_)
    exact ⟨(i + 1, j4), ⟨hi6, hj4⟩, by show 6 - (i + 1) < 6 - i; omega, by (exact zLe), by (exact zLes)⟩
  · (refine zGo ?_)
    refine pw_draw [(0, true), (1, false), (2, true), (3, true), (4, true), (5, true), (6, true), (7, false), (8, true), (9, true), (10, true), (11, true), (15, true), (16, true), (12, false), (13, true), (14, true), (17, false), (18, false), (19, true), (20, true), (21, false), (22, true), (23, true), (24, true)] hmix (by decide +kernel) ?_
    (refine zDgo ?_)
    (refine po_step rfl rfl (op_fun (c30 x) rfl rfl e30 zLe rfl (fun r hr => ?_)); subst hr; refine ⟨rfl, zLok, ?_⟩; refine zDn ?_)
    (refine zDgo ?_)
    refine po_split 37 rfl (fun hh => ?_) (fun hh => ?_)
    · (refine zDgo ?_)
      (refine zGo ?_)
      exact ret1 _ rfl rfl rfl
    · have hok : TOk x := huge_ok hh
      (refine zDgo ?_)
      (refine po_on rfl rfl rfl (op_fun (c29 x hok hx name a n ha) rfl rfl e29 zLe rfl (fun r hr => ?_)); subst hr; refine ⟨rfl, zLok, ?_⟩; refine zDn ?_)
      (refine zDgo ?_)
      (refine po_on rfl rfl rfl (op_call [1] rfl rfl e13 (by decide) rfl rfl rfl zLe zLes (c13n l hl j hj 9 (by decide) (by decide)) (fun r s hq => ?_)); obtain ⟨j2, ⟨k2, hk2, rfl⟩, hj2, rfl⟩ := hq; refine ⟨rfl, rfl, zLok, ?_⟩; refine zDn ?_)
      (refine zDgo ?_)
      (refine po_gval rfl rfl rfl (v_index (p := .str (names9.getD k2 [])) hT rfl rfl rfl rfl (by omega) (lit_at .str names9 k2 [] hk2) rfl) ?_; refine zDn ?_)
      (refine zDgo ?_)
      (refine po_on rfl rfl rfl (op_fun (c31 n 5 (by decide) (by decide)) rfl rfl e31 zLe rfl (fun r hr => ?_)); subst hr; refine ⟨rfl, zLok, ?_⟩; refine zDn ?_)
      (refine zDgo ?_)
      (refine po_on rfl rfl rfl (op_fun (c29 x hok hx (names9.getD k2 []) a (modN n 5) ha) rfl rfl e29 zLe rfl (fun r hr => ?_)); subst hr; refine ⟨rfl, zLok, ?_⟩; refine zDn ?_)
      (refine zDgo ?_)
      (refine po_on rfl rfl rfl (op_fun (c18 hG) rfl rfl e18 zLe rfl (fun r hr => ?_)); subst hr; refine ⟨rfl, zLok, ?_⟩; refine zDn ?_)
      (refine zDgo ?_)
      (refine zGo ?_)
      exact ret1 _ rfl rfl rfl
end Go.Proofs.YtdehdgbdcfkpbaaGreatDoor
