/-
  Contracts of functions, walked over pure values.
-/
import Derived.Test.YtdehdgbdcfkpbaaGreatDoorKA7
import Derived.Test.YtdehdgbdcfkpbaaGreatDoorKL1
import Derived.Test.YtdehdgbdcfkpbaaGreatDoorKL2
import Derived.Test.YtdehdgbdcfkpbaaGreatDoorKL3
import Derived.Test.YtdehdgbdcfkpbaaGreatDoorKC3
import Derived.Test.YtdehdgbdcfkpbaaGreatDoorKC5
import Derived.Test.YtdehdgbdcfkpbaaGreatDoorJPwLoop
import Derived.KernelRfl
import Derived.Test.YtdehdgbdcfkpbaaGreatDoorKA1
namespace Go.Proofs.YtdehdgbdcfkpbaaGreatDoor
open Go Go.Pw
variable {Gl : Glob}
attribute [local irreducible] PW PWL OpP PCalls PWO
set_option maxHeartbeats 20000000
set_option maxRecDepth 100000

/-! ### sane -/
theorem c18 (hG : GM Gl) : PFun Tryz.prog Gl 18 [] fun r => r = .bool true := by
  refine PFun.of hT Tryz.func18 rfl fun B hD => ?_
  refine pw_norm rfl ?_
  have e1 : PFun Tryz.prog Gl 26 [.str sane1] fun r => r = .tup [eTopo saneT, .int .i64 0, .int .i64 0] := by have := c26 hG sane1 (lines_ok _) (Gl := Gl); rw [sane1_is] at this; exact this
  have e2 : PFun Tryz.prog Gl 26 [.str sane2] fun r => r = .tup [eTopo topo0, .int .i64 2, .int .i64 2] := by have := c26 hG sane2 (lines_ok _) (Gl := Gl); rw [sane2_is] at this; exact this
  have e3 : PFun Tryz.prog Gl 39 [eTopo saneT] fun r => r = .bool true := by have := c39 (Gl := Gl) saneT; rw [saneT_complete] at this; exact this
  have e4 : PFun Tryz.prog Gl 24 [eTopo saneT, .int .u32 167772165] fun r => r = .int .i64 0 := by have := c24 (Gl := Gl) saneT 167772165 (by unfold Small; decide); rw [saneT_at] at this; exact this
  (refine zGo ?_)
  (refine pl_op rfl (op_fun (e1) rfl rfl e26 zLe rfl (fun r hr => ?_)); subst hr; refine ⟨rfl, ?_⟩; (refine zNp ?_))
  (refine zGo ?_)
  (refine pl_op rfl (op_fun (e2) rfl rfl e26 zLe rfl (fun r hr => ?_)); subst hr; refine ⟨rfl, ?_⟩; (refine zNp ?_))
  (refine zGo ?_)
  (refine pl_on rfl rfl (op_of (v_index (p := eLink ⟨0, 1, 3⟩) hT rfl rfl rfl rfl (by decide) rfl rfl) ?_); (refine zNp ?_))
  (refine zGo ?_)
  (refine pl_on rfl rfl (op_of (v_eqS (r := true) hT rfl rfl rfl (by kernel_rfl) rfl) ?_); (refine zNp ?_))
  (refine zGo ?_)
  (refine pl_on rfl rfl (op_fun (e3) rfl rfl e39 zLe rfl (fun r hr => ?_)); subst hr; refine ⟨rfl, ?_⟩; (refine zNp ?_))
  (refine zGo ?_)
  (refine pl_on rfl rfl (op_fun (e4) rfl rfl e24 zLe rfl (fun r hr => ?_)); subst hr; refine ⟨rfl, ?_⟩; (refine zNp ?_))
  (refine zGo ?_)
  exact ret1 _ rfl rfl rfl
/-! ### finds -/
theorem idxs_small {α : Type} {p : α → Bool} {l : List α} (h : Small l) : Small (idxs p l) := by
  have := selTo_len p l l.length
  unfold Small idxs at *
  omega
structure EIn (t : Topo) : Prop where
  edges : ∀ e ∈ t.edges, PfxIn e.pfx
theorem at_eq {t : Topo} (h : EIn t) {a : Int} (ha : 0 ≤ a ∧ a < 4294967296) : rAt t a = tAt t a := by
  unfold rAt tAt firstAt
  have : ∀ l : List TEdge, (∀ e ∈ l, PfxIn e.pfx) → l.findIdx? (fun d => !d.planned && rcont d.pfx a) = l.findIdx? (fun d => !d.planned && pcont d.pfx a) := by
    intro l
    induction l with
    | nil => intro _; rfl
    | cons e l ih =>
      intro hl
      rw [List.findIdx?_cons, List.findIdx?_cons, cont_eq e.pfx a (hl e (List.mem_cons_self ..)) ha, ih fun x hx => hl x (List.mem_cons_of_mem _ hx)]
  rw [this t.edges h.edges]
theorem c29 (t : Topo) (ht : TOk t) (hin : EIn t) (name : Str) (a n : Int) (ha : 0 ≤ a ∧ a < 4294967296) : PFun Tryz.prog Gl 29 [eTopo t, .str name, .int .u32 a, .int .i64 n] fun r => r = .bool true := by
  refine PFun.of hT Tryz.func29 rfl fun B hD => ?_
  refine pw_norm rfl ?_
  have hra : PFun Tryz.prog Gl 67 [eTopo t, .int .u32 a] fun r => r = .int .i64 (tAt t a) := by have := c67 (Gl := Gl) t a ht.edges; rw [at_eq hin ha] at this; exact this
  (refine zGo ?_)
  refine pw_draw [(0, true), (1, true), (3, true), (4, true), (2, false), (5, false), (6, true), (7, true), (8, true), (9, true), (11, true), (12, true), (10, false), (13, false), (14, true), (15, true), (16, true), (17, true), (18, true), (20, true), (21, true), (19, false), (22, false), (23, true), (24, true), (25, true), (26, true), (27, true), (29, true), (30, true), (28, false), (31, false), (32, false), (33, true), (34, true), (35, true), (36, true), (38, true), (39, true), (37, false), (40, false), (41, false), (42, true), (43, true)] hmix (by decide +kernel) ?_
  (refine zDgo ?_)
  (refine po_step rfl rfl (op_fun (c41 t name ht.devs) rfl rfl e41 zLe rfl (fun r hr => ?_)); subst hr; refine ⟨rfl, zLok, ?_⟩; refine zDn ?_)
  (refine zDgo ?_)
  (refine po_step rfl rfl (op_fun (c66 t name ht.devs) rfl rfl e66 zLe rfl (fun r hr => ?_)); subst hr; refine ⟨rfl, zLok, ?_⟩; refine zDn ?_)
  (refine zDgo ?_)
  refine po_split 16 rfl (fun h => ?_) (fun h => ?_)
  · (refine zDgo ?_)
    (refine po_on rfl rfl rfl (op_fun (c43 t name ht.edges) rfl rfl e43 zLe rfl (fun r hr => ?_)); subst hr; refine ⟨rfl, zLok, ?_⟩; refine zDn ?_)
    (refine zDgo ?_)
    (refine po_on rfl rfl rfl (op_fun (c50 t name ht.edges) rfl rfl e50 zLe rfl (fun r hr => ?_)); subst hr; refine ⟨rfl, zLok, ?_⟩; refine zDn ?_)
    (refine zDgo ?_)
    refine po_split 25 rfl (fun h2 => ?_) (fun h2 => ?_)
    · (refine zDgo ?_)
      (refine po_on rfl rfl rfl (op_fun (c24 t a ht.edges) rfl rfl e24 zLe rfl (fun r hr => ?_)); subst hr; refine ⟨rfl, zLok, ?_⟩; refine zDn ?_)
      (refine zDgo ?_)
      (refine po_on rfl rfl rfl (op_fun (hra) rfl rfl e67 zLe rfl (fun r hr => ?_)); subst hr; refine ⟨rfl, zLok, ?_⟩; refine zDn ?_)
      (refine zDgo ?_)
      refine po_split 34 rfl (fun h3 => ?_) (fun h3 => ?_)
      · (refine zDgo ?_)
        (refine po_on rfl rfl rfl (op_fun (c69 t n ht.edges) rfl rfl e69 zLe rfl (fun r hr => ?_)); subst hr; refine ⟨rfl, zLok, ?_⟩; refine zDn ?_)
        (refine zDgo ?_)
        (refine po_on rfl rfl rfl (op_fun (c70 t n ht.edges) rfl rfl e70 zLe rfl (fun r hr => ?_)); subst hr; refine ⟨rfl, zLok, ?_⟩; refine zDn ?_)
        (refine zDgo ?_)
        (refine po_on rfl rfl rfl (op_fun (c68 (tEdges t n) (tEdges t n) (idxs_small ht.edges)) rfl rfl e68 zLe rfl (fun r hr => ?_)); subst hr; refine ⟨rfl, zLok, ?_⟩; refine zDn ?_)
        (refine zDgo ?_)
        refine po_split 43 rfl (fun h4 => ?_) (fun h4 => ?_)
        · (refine zDgo ?_)
          (refine po_on rfl rfl rfl (op_fun (c71 t name ht.edges) rfl rfl e71 zLe rfl (fun r hr => ?_)); subst hr; refine ⟨rfl, zLok, ?_⟩; refine zDn ?_)
          (refine zDgo ?_)
          (refine po_on rfl rfl rfl (op_fun (c72 t name ht.edges) rfl rfl e72 zLe rfl (fun r hr => ?_)); subst hr; refine ⟨rfl, zLok, ?_⟩; refine zDn ?_)
          (refine zDgo ?_)
          (refine po_on rfl rfl rfl (op_fun (c68 (tZone t name) (tZone t name) (idxs_small ht.edges)) rfl rfl e68 zLe rfl (fun r hr => ?_)); subst hr; refine ⟨rfl, zLok, ?_⟩; refine zDn ?_)
          (refine zDgo ?_)
          (refine zGo ?_)
          exact ret1 _ rfl (by simp) rfl
        · exact absurd h4 (by simp)
      · exact absurd h3 (by simp)
    · exact absurd h2 (by simp)
  · exact absurd h (by simp [tDevice])
end Go.Proofs.YtdehdgbdcfkpbaaGreatDoor
