/-
  The law TopologyRoundTrip, walked.
-/
import Derived.Test.YtdehdgbdcfkpbaaGreatDoorKF2
import Derived.Test.YtdehdgbdcfkpbaaGreatDoorKD3
import Derived.Test.YtdehdgbdcfkpbaaGreatDoorKE9
import Derived.Test.YtdehdgbdcfkpbaaGreatDoorKQ4
namespace Go.Proofs.YtdehdgbdcfkpbaaGreatDoor
open Go Go.Pw
variable {Gl : Glob}
attribute [local irreducible] PW PWL OpP PCalls PWO
set_option maxHeartbeats 20000000
set_option maxRecDepth 100000

/-- A valid topology's text, read by the program. -/
theorem c26f (hM : GM Gl) {y : Topo} (hy : TIn y) (hv : rValid y = true) : PFun Tryz.prog Gl 26 [.str (textS (fLines y))] fun r => r = .tup [eTopo y, .int .i64 0, .int .i64 0] := by
  have := c26 (Gl := Gl) hM (textS (fLines y)) (lines_ok _)
  rw [tParse_format hv ⟨hy.edges, hy.pools⟩] at this
  exact this
theorem rFormat_yes {y : Topo} (hv : rValid y = true) : rFormat y = (textS (fLines y), 0) := by unfold rFormat; rw [hv]; rfl
theorem rFormat_not {y : Topo} (hv : rValid y = false) : rFormat y = ([], 1) := by unfold rFormat; rw [hv]; rfl
theorem c8 (hM : GM Gl) (hG : GT Gl) (l : List Int) (hl : Tp l) (x : Topo) (hx : TIn x) : PFun Tryz.prog Gl 8 [.sl (l.map eInt), eTopo x] fun r => r = .bool true := by
  refine PFun.of hT Tryz.func8 rfl fun B hD => ?_
  refine pw_norm rfl ?_
  (refine zGo ?_)
  (refine pl_op rfl (op_call [] rfl rfl e10 (by decide) rfl rfl rfl zLe zLes (c10 l) (fun r s hq => ?_)); obtain ⟨rfl, rfl⟩ := hq; refine ⟨rfl, rfl, ?_⟩; (refine zNp ?_))
  refine pl_pure hT rfl ?_
  refine pl_nil ?_
  change PW Tryz.prog Gl B _ _ _ _
  refine pw_seq ?_
  refine pw_joinX hD (fun a : Topo × Nat => (TIn a.1 ∧ TOk a.1) ∧ a.2 ≤ l.length) (fun _ => []) (fun a => [.box (eTopo a.1).cells, tape l a.2]) 2 rfl (fun _ => rfl) (fun _ => rfl) (fun _ => rfl) ?_ ?_
  · (refine zGo ?_)
    (refine pl_op rfl (op_fun (c30 x) rfl rfl e30 zLe rfl (fun r hr => ?_)); subst hr; refine ⟨rfl, ?_⟩; (refine zNp ?_))
    (refine zGo ?_)
    refine pl_split 15 rfl (fun hq => ?_) (fun hq => ?_)
    · (refine zGo ?_)
      (refine pl_op rfl (op_call [1] rfl rfl e19 (by decide) rfl rfl rfl zLe zLes (c19 l hl 0 (Nat.zero_le _)) (fun r s hq => ?_)); obtain ⟨j1, t, hf, rfl, hj1, rfl⟩ := hq; refine ⟨rfl, rfl, ?_⟩; (refine zNp ?_))
      (refine zGo ?_)
      exact ⟨(t, j1), ⟨⟨⟨hf.ein, hf.pin⟩, hf.ok (by decide)⟩, hj1⟩, by (exact zLe), by (exact zLes)⟩
    · (refine zGo ?_)
      (refine pl_on rfl rfl (op_call [1] rfl rfl e13 (by decide) rfl rfl rfl zLe zLes (c13n l hl 0 (Nat.zero_le _) 3 (by decide) (by decide)) (fun r s hq => ?_)); obtain ⟨j1, ⟨k1, hk1, rfl⟩, hj1, rfl⟩ := hq; refine ⟨rfl, rfl, ?_⟩; (refine zNp ?_))
      (refine zGo ?_)
      refine pw_cond rfl (fun h => ?_) (fun h => ?_)
      · (refine zGo ?_)
        (refine pl_op rfl (op_call [1] rfl rfl e19 (by decide) rfl rfl rfl zLe zLes (c19 l hl j1 hj1) (fun r s hq => ?_)); obtain ⟨j2, t, hf, rfl, hj2, rfl⟩ := hq; refine ⟨rfl, rfl, ?_⟩; (refine zNp ?_))
        (refine zGo ?_)
        exact ⟨(t, j2), ⟨⟨⟨hf.ein, hf.pin⟩, hf.ok (by decide)⟩, hj2⟩, by (exact zLe), by (exact zLes)⟩
      · (refine zGo ?_)
        exact ⟨(x, j1), ⟨⟨hx, huge_ok hq⟩, hj1⟩, by (exact zLe), by (exact zLes)⟩
  rintro ⟨y, j2⟩ ⟨⟨hy, hok⟩, hj2⟩
  dsimp only at hy hok hj2 ⊢
  have h34 := c34 hG y hy
  have h20 := c20 (Gl := Gl) y
  rw [← rValid_eq y hy] at h20
  cases hv : rValid y with
  | false =>
    rw [rFormat_not hv] at h34
    rw [hv] at h20
    (refine zGo ?_)
    (refine pl_op rfl (op_fun (h34) rfl rfl e34 zLe rfl (fun r hr => ?_)); subst hr; refine ⟨rfl, ?_⟩; (refine zNp ?_))
    (refine zGo ?_)
    (refine pl_on rfl rfl (op_fun (h20) rfl rfl e20 zLe rfl (fun r hr => ?_)); subst hr; refine ⟨rfl, ?_⟩; (refine zNp ?_))
    (refine zGo ?_)
    (refine pl_on rfl rfl (op_fun (c18 hM) rfl rfl e18 zLe rfl (fun r hr => ?_)); subst hr; refine ⟨rfl, ?_⟩; (refine zNp ?_))
    (refine zGo ?_)
    exact ret1 _ rfl rfl rfl
  | true =>
    rw [rFormat_yes hv] at h34
    rw [hv] at h20
    have h26 := c26f hM hy hv
    generalize textS (fLines y) = s at h34 h26
    (refine zGo ?_)
    (refine pl_op rfl (op_fun (h34) rfl rfl e34 zLe rfl (fun r hr => ?_)); subst hr; refine ⟨rfl, ?_⟩; (refine zNp ?_))
    (refine zGo ?_)
    (refine pl_op rfl (op_fun (h26) rfl rfl e26 zLe rfl (fun r hr => ?_)); subst hr; refine ⟨rfl, ?_⟩; (refine zNp ?_))
    (refine zGo ?_)
    (refine pl_on rfl rfl (op_fun (c28 y hok) rfl rfl e28 zLe rfl (fun r hr => ?_)); subst hr; refine ⟨rfl, ?_⟩; (refine zNp ?_))
    (refine zGo ?_)
    (refine pl_on rfl rfl (op_fun (h20) rfl rfl e20 zLe rfl (fun r hr => ?_)); subst hr; refine ⟨rfl, ?_⟩; (refine zNp ?_))
    (refine zGo ?_)
    (refine pl_on rfl rfl (op_fun (c18 hM) rfl rfl e18 zLe rfl (fun r hr => ?_)); subst hr; refine ⟨rfl, ?_⟩; (refine zNp ?_))
    (refine zGo ?_)
    exact ret1 _ rfl rfl rfl
end Go.Proofs.YtdehdgbdcfkpbaaGreatDoor
