/-
  The reference's Complete, and the law's helper reads.
  The law TopologyReads, walked.
-/
import Derived.Test.YtdehdgbdcfkpbaaGreatDoorKF0
import Derived.Test.YtdehdgbdcfkpbaaGreatDoorKD3
import Derived.Test.YtdehdgbdcfkpbaaGreatDoorJPwLoop
import Derived.Test.YtdehdgbdcfkpbaaGreatDoorKX2
import Derived.Test.YtdehdgbdcfkpbaaGreatDoorKE5
import Derived.Test.YtdehdgbdcfkpbaaGreatDoorKD2
import Derived.KernelRfl
namespace Go.Proofs.YtdehdgbdcfkpbaaGreatDoor
open Go Go.Pw
variable {Gl : Glob}
attribute [local irreducible] PW PWL OpP PCalls PWO
set_option maxHeartbeats 20000000
set_option maxRecDepth 100000

/-! ### TopologyOwners -/
theorem c21t {t : Topo} (h : TIn t) : PFun Tryz.prog Gl 21 [eTopo t] fun r => r = .bool (tValid t) := by
  rw [← rValid_eq t h]; exact c21 t
theorem three_at {a b c : Int} (ha : 0 ≤ a ∧ a < 4294967296) (hb : 0 ≤ b ∧ b < 4294967296) (hc : 0 ≤ c ∧ c < 4294967296) : ∀ i : Nat, i < 3 → ∃ v, [PV.int .u32 a, .int .u32 b, .int .u32 c][i]? = some (.int .u32 v) ∧ 0 ≤ v ∧ v < 4294967296
  | 0, _ => ⟨a, rfl, ha⟩
  | 1, _ => ⟨b, rfl, hb⟩
  | 2, _ => ⟨c, rfl, hc⟩
  | _ + 3, h => by omega
theorem c4 (hG : GM Gl) (l : List Int) (hl : Tp l) (a : Int) (ha : 0 ≤ a ∧ a < 4294967296) : PFun Tryz.prog Gl 4 [.sl (l.map eInt), .int .u32 a] fun r => r = .bool true := by
  refine PFun.of hT Tryz.func4 rfl fun B hD => ?_
  refine pw_norm rfl ?_
  (refine zGo ?_)
  (refine pl_op rfl (op_call [] rfl rfl e10 (by decide) rfl rfl rfl zLe zLes (c10 l) (fun r s hq => ?_)); obtain ⟨rfl, rfl⟩ := hq; refine ⟨rfl, rfl, ?_⟩; (refine zNp ?_))
  (refine zGo ?_)
  (refine pl_op rfl (op_call [0] rfl rfl e19 (by decide) rfl rfl rfl zLe zLes (c19 l hl 0 (Nat.zero_le _)) (fun r s hq => ?_)); obtain ⟨j1, t, hf, rfl, hj1, rfl⟩ := hq; refine ⟨rfl, rfl, ?_⟩; (refine zNp ?_))
  (refine zGo ?_)
  have hin : TIn t := ⟨hf.ein, hf.pin⟩
  have hok := hf.ok (by decide)
  have hse := hok.edges
  have hse' := hse
  unfold Small at hse'
  (refine pl_op rfl (op_fun (c20 t) rfl rfl e20 zLe rfl (fun r hr => ?_)); subst hr; refine ⟨rfl, ?_⟩; (refine zNp ?_))
  (refine zGo ?_)
  refine pw_cond rfl (fun h => ?_) (fun h => ?_)
  · (refine zGo ?_)
    refine pw_draw [(0, true), (2, true), (1, false), (3, false), (4, true), (5, true), (6, false), (7, true), (8, true)] hmix (by decide +kernel) ?_
    (refine zDgo ?_)
    (refine po_step rfl rfl (op_fun (c20 t) rfl rfl e20 zLe rfl (fun r hr => ?_)); subst hr; refine ⟨rfl, zLok, ?_⟩; refine zDn ?_)
    (refine zDgo ?_)
    (refine po_step rfl rfl (op_fun (c21t hin) rfl rfl e21 zLe rfl (fun r hr => ?_)); subst hr; refine ⟨rfl, zLok, ?_⟩; refine zDn ?_)
    (refine zDgo ?_)
    (refine po_val rfl rfl (v_eqB hT rfl (by kernel_rfl) rfl rfl rfl) ?_; refine zDn ?_)
    rw [beq_self_eq_true]
    (refine zDgo ?_)
    (refine po_on rfl rfl rfl (op_fun (c18 hG) rfl rfl e18 zLe rfl (fun r hr => ?_)); subst hr; refine ⟨rfl, zLok, ?_⟩; refine zDn ?_)
    (refine zDgo ?_)
    (refine zGo ?_)
    exact ret1 _ rfl rfl rfl
  have hv : tValid t = true := by simpa using h
  clear h
  (refine zGo ?_)
  (refine pl_op rfl (op_call [0] rfl rfl e22 (by decide) rfl rfl rfl zLe zLes (c22 l hl j1 hj1) (fun r s hq => ?_)); obtain ⟨j2, ⟨b1, hb1, rfl⟩, hj2, rfl⟩ := hq; refine ⟨rfl, rfl, ?_⟩; (refine zNp ?_))
  (refine zGo ?_)
  (refine pl_op rfl (op_call [0] rfl rfl e22 (by decide) rfl rfl rfl zLe zLes (c22 l hl j2 hj2) (fun r s hq => ?_)); obtain ⟨j3, ⟨b2, hb2, rfl⟩, hj3, rfl⟩ := hq; refine ⟨rfl, rfl, ?_⟩; (refine zNp ?_))
  (refine zGo ?_)
  refine pw_for hD (fun i : Nat => [(8, .int .i64 i)]) (fun _ => [tape l j3, .box (eTopo t).cells]) (fun i => i ≤ 3) (fun i => 3 - i) 0 (Nat.zero_le _) 2 rfl (fun _ => rfl) (by (exact zLes)) (fun _ => rfl) (fun _ => rfl) (by (exact zLe)) ?_
  intro i hi
  (refine zGo ?_)
  refine pw_cond rfl (fun h1 => ?_) (fun h1 => ?_)
  · have hi3 : i < 3 := by simp at h1; omega
    obtain ⟨v, hp3, hv0⟩ := three_at ha hb1 hb2 i hi3
    (refine zGo ?_)
    refine pw_for hD (fun s : Nat × Int × Int => [(9, .int .i64 s.2.1), (10, .int .i64 s.2.2), (11, .int .i64 s.1)]) (fun _ => [tape l j3, .box (eTopo t).cells]) (fun s => s.1 ≤ t.edges.length ∧ Own v t.edges s.1 s.2.1 s.2.2) (fun s => t.edges.length - s.1) (0, 0, -1) ⟨Nat.zero_le _, .inl ⟨rfl, rfl, by intro j x h; omega⟩⟩ 2 rfl (fun _ => rfl) (by (exact zLes)) (fun _ => rfl) (fun _ => rfl) (by (exact zLe)) ?_
    rintro ⟨e, n, last⟩ ⟨he, hw⟩
    dsimp only at he hw ⊢
    (refine zGo ?_)
    refine pw_cond rfl (fun h2 => ?_) (fun h2 => ?_)
    · simp only [decide_eq_true_eq, List.length_map] at h2
      have hlt : e < t.edges.length := by omega
      have hp : (t.edges.map eEdge)[e]? = some (eEdge t.edges[e]) := by simp [hlt]
      have hg : t.edges[e]? = some t.edges[e] := List.getElem?_eq_getElem hlt
      have hbd := hw.bound
      generalize t.edges[e] = x at hp hg
      (refine zGo ?_)
      refine pw_draw [(0, true), (1, true), (2, true), (3, true), (4, true), (5, true), (6, true), (7, true), (8, true), (9, true), (10, true), (11, true), (12, true), (13, true), (14, true), (15, true), (16, true), (17, true), (18, false), (19, true)] hmix (by decide +kernel) ?_
      (refine zDgo ?_)
      (refine po_val rfl rfl (v_index (p := eEdge x) hT rfl rfl rfl rfl (by omega) hp rfl) ?_; refine zDn ?_)
      (refine zDgo ?_)
      refine po_split 53 rfl (fun h3 => ?_) (fun h3 => ?_)
      · (refine zDgo ?_)
        (refine po_gval rfl rfl rfl (v_index (p := eEdge x) hT rfl rfl rfl rfl (by omega) hp rfl) ?_; refine zDn ?_)
        (refine zDgo ?_)
        (refine po_gval rfl rfl rfl (v_index (p := .int .u32 v) hT rfl rfl rfl rfl (by omega) hp3 rfl) ?_; refine zDn ?_)
        (refine zDgo ?_)
        (refine po_on rfl rfl rfl (op_fun (c23 x.pfx v) rfl rfl e23 zLe rfl (fun r hr => ?_)); subst hr; refine ⟨rfl, zLok, ?_⟩; refine zDn ?_)
        (refine zDgo ?_)
        (refine zGo ?_)
        refine pw_cond rfl (fun h4 => ?_) (fun h4 => ?_)
        · obtain ⟨hn0, hw'⟩ := hw.yes hv hin.edges hv0 hg (by rw [hit, h3, h4]; rfl)
          (refine zGo ?_)
          exact ⟨(e + 1, n + 1, e), ⟨hlt, hw'⟩, by show _ - (e + 1) < _ - e; omega, by (exact zLe), by (exact zLes)⟩
        · have hw' := hw.no hg (by rw [hit, h3, h4]; rfl)
          (refine zGo ?_)
          exact ⟨(e + 1, n, last), ⟨hlt, hw'⟩, by show _ - (e + 1) < _ - e; omega, by (exact zLe), by (exact zLes)⟩
      · (refine zDgo ?_)
        (refine zGo ?_)
        have hw' := hw.no hg (by rw [hit, h3]; rfl)
        exact ⟨(e + 1, n, last), ⟨hlt, hw'⟩, by show _ - (e + 1) < _ - e; omega, by (exact zLe), by (exact zLes)⟩
    · simp only [decide_eq_false_iff_not, List.length_map] at h2
      have hee : e = t.edges.length := by omega
      subst hee
      obtain ⟨hn0, hn1, how⟩ := hw.fin
      (refine zGo ?_)
      refine pw_draw [(0, true), (1, true), (2, true), (3, true), (4, true), (5, true), (6, true), (7, true), (9, true), (8, false), (10, true), (11, true)] hmix (by decide +kernel) ?_
      (refine zDgo ?_)
      refine po_split 71 rfl (fun h3 => ?_) (fun h3 => ?_)
      · exact absurd (of_decide_eq_true h3) (by omega)
      · (refine zDgo ?_)
        (refine po_gval rfl rfl rfl (v_index (p := .int .u32 v) hT rfl rfl rfl rfl (by omega) hp3 rfl) ?_; refine zDn ?_)
        (refine zDgo ?_)
        (refine po_on rfl rfl rfl (op_fun (c24 t v hse) rfl rfl e24 zLe rfl (fun r hr => ?_)); subst hr; refine ⟨rfl, zLok, ?_⟩; refine zDn ?_)
        (refine zDgo ?_)
        (refine zGo ?_)
        refine pw_cond rfl (fun h4 => ?_) (fun h4 => ?_)
        · rw [own_eq hin.edges hv0, how] at h4
          exact absurd h4 (by simp)
        · (refine zGo ?_)
          exact ⟨i + 1, hi3, by omega, by (exact zLe), by (exact zLes)⟩
  · (refine zGo ?_)
    (refine pl_op rfl (op_fun (c18 hG) rfl rfl e18 zLe rfl (fun r hr => ?_)); subst hr; refine ⟨rfl, ?_⟩; (refine zNp ?_))
    (refine zGo ?_)
    exact ret1 _ rfl rfl rfl
end Go.Proofs.YtdehdgbdcfkpbaaGreatDoor
namespace Go.Proofs.YtdehdgbdcfkpbaaGreatDoor
open Go Go.Pw
variable {Gl : Glob}
attribute [local irreducible] PW PWL OpP PCalls PWO
set_option maxHeartbeats 20000000
set_option maxRecDepth 100000

def rComplete (t : Topo) : Bool := rValid t && ((((fixed t.edges).length : Nat) : Int) == ((t.edges.length : Nat) : Int))
theorem c73 (t : Topo) (hl : Small t.edges) : PFun Tryz.prog Gl 73 [eTopo t] fun r => r = .bool (rComplete t) := by
  refine PFun.of hT Tryz.func73 rfl fun B hD => ?_
  refine pw_norm rfl ?_
  (refine zGo ?_)
  refine pw_draw [(0, true), (1, false), (2, true), (3, true), (6, true), (7, true), (8, true), (4, false), (5, true), (9, true), (10, true), (11, true)] hmix (by decide +kernel) ?_
  (refine zDgo ?_)
  (refine po_step rfl rfl (op_fun (c21 t) rfl rfl e21 zLe rfl (fun r hr => ?_)); subst hr; refine ⟨rfl, zLok, ?_⟩; refine zDn ?_)
  (refine zDgo ?_)
  refine po_split 5 rfl (fun h => ?_) (fun h => ?_)
  · (refine zDgo ?_)
    (refine po_on rfl rfl rfl (op_fun (c51 t hl) rfl rfl e51 zLe rfl (fun r hr => ?_)); subst hr; refine ⟨rfl, zLok, ?_⟩; refine zDn ?_)
    (refine zDgo ?_)
    (refine zGo ?_)
    refine ret1 _ rfl ?_ rfl
    unfold rComplete
    rw [h, List.length_map, List.length_map]
    rfl
  · (refine zDgo ?_)
    (refine zGo ?_)
    refine ret1 _ rfl ?_ rfl
    unfold rComplete
    rw [h]
    rfl
theorem comp_eq (t : Topo) (h : TIn t) : rComplete t = tComplete t := by
  unfold rComplete tComplete
  rw [rValid_eq t h]
  congr 1
  have : ((fixed t.edges).length = t.edges.length) ↔ ∀ e ∈ t.edges, (!e.planned) = true := by
    unfold fixed
    rw [List.length_map, List.length_filter_eq_length_iff]
  rw [Bool.eq_iff_iff, beq_iff_eq, Bool.not_eq_true', List.any_eq_false]
  constructor
  · intro e x hx
    have := this.1 (by omega) x hx
    simpa using this
  · intro e
    have := this.2 fun x hx => by have := e x hx; simpa using this
    omega
theorem c32 (hG : GT Gl) (t : Topo) (hin : TIn t) (hl : Small t.edges) : PFun Tryz.prog Gl 32 [eTopo t] fun r => r = .bool true := by
  refine PFun.of hT Tryz.func32 rfl fun B hD => ?_
  refine pw_norm rfl ?_
  have h39 := c39 (Gl := Gl) t
  rw [← comp_eq t hin] at h39
  have h20 := c20 (Gl := Gl) t
  rw [← rValid_eq t hin] at h20
  have h34 := c34 hG t hin
  have h11 := c11 (Gl := Gl) t hin
  have h21 := c21 (Gl := Gl) t
  have h73 := c73 (Gl := Gl) t hl
  generalize rComplete t = k at *
  generalize rValid t = v at *
  generalize rFormat t = f at *
  obtain ⟨s, n⟩ := f
  (refine zGo ?_)
  (refine pl_op rfl (op_fun (h34) rfl rfl e34 zLe rfl (fun r hr => ?_)); subst hr; refine ⟨rfl, ?_⟩; (refine zNp ?_))
  (refine zGo ?_)
  (refine pl_op rfl (op_fun (h11) rfl rfl e11 zLe rfl (fun r hr => ?_)); subst hr; refine ⟨rfl, ?_⟩; (refine zNp ?_))
  (refine zGo ?_)
  refine pw_draw [(0, true), (1, true), (2, true), (3, true), (4, true), (5, true), (6, true), (7, true), (8, true), (9, true), (11, true), (10, false), (12, false), (13, true), (14, true), (15, true), (16, true), (18, true), (17, false), (19, false), (20, true), (21, true), (22, true)] hmix (by decide +kernel) ?_
  (refine zDgo ?_)
  refine po_split 20 rfl (fun h => ?_) (fun h => ?_)
  · (refine zDgo ?_)
    refine po_split 25 rfl (fun h2 => ?_) (fun h2 => ?_)
    · (refine zDgo ?_)
      (refine po_on rfl rfl rfl (op_fun (h20) rfl rfl e20 zLe rfl (fun r hr => ?_)); subst hr; refine ⟨rfl, zLok, ?_⟩; refine zDn ?_)
      (refine zDgo ?_)
      (refine po_on rfl rfl rfl (op_fun (h21) rfl rfl e21 zLe rfl (fun r hr => ?_)); subst hr; refine ⟨rfl, zLok, ?_⟩; refine zDn ?_)
      (refine zDgo ?_)
      (refine po_gval rfl rfl rfl (v_eqB hT rfl (by kernel_rfl) rfl rfl rfl) ?_; refine zDn ?_)
      (refine zDgo ?_)
      refine po_split 32 rfl (fun h3 => ?_) (fun h3 => ?_)
      · (refine zDgo ?_)
        (refine po_on rfl rfl rfl (op_fun (h39) rfl rfl e39 zLe rfl (fun r hr => ?_)); subst hr; refine ⟨rfl, zLok, ?_⟩; refine zDn ?_)
        (refine zDgo ?_)
        (refine po_on rfl rfl rfl (op_fun (h73) rfl rfl e73 zLe rfl (fun r hr => ?_)); subst hr; refine ⟨rfl, zLok, ?_⟩; refine zDn ?_)
        (refine zDgo ?_)
        (refine po_gval rfl rfl rfl (v_eqB hT rfl (by kernel_rfl) rfl rfl rfl) ?_; refine zDn ?_)
        (refine zDgo ?_)
        (refine zGo ?_)
        refine ret1 _ rfl ?_ rfl
        simp
      · simp at h3
    · simp at h2
  · simp at h
end Go.Proofs.YtdehdgbdcfkpbaaGreatDoor
namespace Go.Proofs.YtdehdgbdcfkpbaaGreatDoor
open Go Go.Pw
variable {Gl : Glob}
attribute [local irreducible] PW PWL OpP PCalls PWO
set_option maxHeartbeats 20000000
set_option maxRecDepth 100000

theorem c7 (hM : GM Gl) (hG : GT Gl) (l : List Int) (hl : Tp l) (x : Topo) (hx : TIn x) : PFun Tryz.prog Gl 7 [.sl (l.map eInt), eTopo x] fun r => r = .bool true := by
  refine PFun.of hT Tryz.func7 rfl fun B hD => ?_
  refine pw_norm rfl ?_
  (refine zGo ?_)
  (refine pl_op rfl (op_call [] rfl rfl e10 (by decide) rfl rfl rfl zLe zLes (c10 l) (fun r s hq => ?_)); obtain ⟨rfl, rfl⟩ := hq; refine ⟨rfl, rfl, ?_⟩; (refine zNp ?_))
  (refine zGo ?_)
  refine pw_for hD (fun i : Nat × Nat => [(6, .int .i64 i.1)]) (fun i => [.box (eTopo x).cells, tape l i.2]) (fun i => i.1 ≤ 5 ∧ i.2 ≤ l.length) (fun i => 5 - i.1) (0, 0) ⟨Nat.zero_le _, Nat.zero_le _⟩ 2 rfl (fun _ => rfl) (by (exact zLes)) (fun _ => rfl) (fun _ => rfl) (by (exact zLe)) ?_
  rintro ⟨i, j⟩ ⟨hi, hj⟩
  dsimp only at hi hj ⊢
  (refine zGo ?_)
  refine pw_cond rfl (fun h => ?_) (fun h => ?_)
  · have hi5 : i < 5 := by simp at h; omega
    (refine zGo ?_)
    (refine pl_op rfl (op_call [1] rfl rfl e19 (by decide) rfl rfl rfl zLe zLes (c19 l hl j hj) (fun r s hq => ?_)); obtain ⟨j1, t, hf, rfl, hj1, rfl⟩ := hq; refine ⟨rfl, rfl, ?_⟩; (refine zNp ?_))
    (refine zGo ?_)
    (refine pl_op rfl (op_fun (c32 hG t ⟨hf.ein, hf.pin⟩ (hf.ok (by decide)).edges) rfl rfl e32 zLe rfl (fun r hr => ?_)); subst hr; refine ⟨rfl, ?_⟩; (refine zNp ?_))
    (refine zGo ?_)
    (refine pl_on rfl rfl (op_call [1] rfl rfl e33 (by decide) rfl rfl rfl zLe zLes (c33 l hl j1 hj1 t 11 (by decide) hf) (fun r s hq => ?_)); obtain ⟨j2, t2, hf2, rfl, hj2, rfl⟩ := hq; refine ⟨rfl, rfl, ?_⟩; (refine zNp ?_))
    (refine zGo ?_)
    (refine pl_on rfl rfl (op_fun (c32 hG t2 ⟨hf2.ein, hf2.pin⟩ (hf2.ok (by decide)).edges) rfl rfl e32 zLe rfl (fun r hr => ?_)); subst hr; refine ⟨rfl, ?_⟩; (refine zNp ?_))
    (refine zGo ?_)
    exact ⟨(i + 1, j2), ⟨hi5, hj2⟩, by show 5 - (i + 1) < 5 - i; omega, by (exact zLe), by (exact zLes)⟩
  · (refine zGo ?_)
    (refine pl_op rfl (op_fun (c30 x) rfl rfl e30 zLe rfl (fun r hr => ?_)); subst hr; refine ⟨rfl, ?_⟩; (refine zNp ?_))
    (refine zGo ?_)
    refine pl_split 28 rfl (fun hq => ?_) (fun hq => ?_)
    · (refine zGo ?_)
      exact ret1 _ rfl rfl rfl
    · have hxs := (huge_ok hq).edges
      (refine zGo ?_)
      (refine pl_on rfl rfl (op_fun (c32 hG x hx hxs) rfl rfl e32 zLe rfl (fun r hr => ?_)); subst hr; refine ⟨rfl, ?_⟩; (refine zNp ?_))
      (refine zGo ?_)
      (refine pl_on rfl rfl (op_fun (c18 hM) rfl rfl e18 zLe rfl (fun r hr => ?_)); subst hr; refine ⟨rfl, ?_⟩; (refine zNp ?_))
      (refine zGo ?_)
      exact ret1 _ rfl rfl rfl
end Go.Proofs.YtdehdgbdcfkpbaaGreatDoor
