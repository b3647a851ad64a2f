/-
  IntentStatements returns true at every input, and every argument reads behind the call as it did. Condition of the row: the listed package-level variables start as the program's text lays them (the card ties them to it).
-/
import Derived.Test.YtkaobkjcjodffaaGreatDoorKB9
import Derived.Test.YtkaobkjcjodffaaGreatDoorKN2D
namespace Go.Proofs.YtkaobkjcjodffaaGreatDoor
open Go Go.Pw Go.RowKit Go.WideShapes Go.ChangeShapes Go.ChangeAt
set_option maxRecDepth 100000
theorem statements_lifted (os : Os) (started : os.Started) (H : Type) (enc : TypeId × Value → H) :
    ReturnsInHanded {} Tryz.checked os 6 .any (fun w args => (Rows.intentStatementsSpec.pre enc Tryz.prog Tryz.f6 [] false w args ∧ laidMetH Tryz.prog Rows.intentStatementsRow.laid w) ∧ sizedMet enc Tryz.prog Tryz.f6 (OpenSpec.ofChange Rows.intentStatementsSpec) false w args)
      (Rows.intentStatementsSpec.post enc Tryz.prog Tryz.f6 false true false false) := by
  refine handed_shapedX (C := Tryz.checked) (X := fun w _ => laidMetH Tryz.prog Rows.intentStatementsRow.laid w) (fun _ _ _ hh h => h.of_heap hh) ownK started (by kernel_rfl) Tryz.func6
    (ChangeSpec.witness_shaped (enc := enc) (C := Tryz.checked) (os := os) (X := fun w _ => laidMetH Tryz.prog Rows.intentStatementsRow.laid w) false (World.laidAll Tryz.prog os Rows.intentStatementsRow.laid)
      #[.bool false, .bool false, .bool false, .bool false, .int .i64 0] 8 (World.laidAll_os _ _ _)
      (World.shaped_of_ZipB (by kernel_rfl) (by kernel_rfl)) (by kernel_rfl) (by kernel_rfl) (by kernel_rfl)
      (by rw [MakeChecks.laidMetH_plain _ _ _ (by kernel_rfl)]; exact laidMet_laidAll _ (by kernel_rfl) (by kernel_rfl))) ?_
  intro W base args ds gs before hval hW hsh hX
  have hW' := hW
  obtain ⟨p, q, hA0, hV, rfl, _, _⟩ := hW
  have hA : DataW.TrodAll enc Tryz.prog W 0 (fun _ => true) true [4, 4, 4, 4, 3] args.toList ds p := by rw [Tryz.params6] at hA0; exact hA0
  obtain ⟨rfl, rfl⟩ := trodVars_none hV
  simp only [List.append_nil] at hW'
  have hlt : ∀ x ∈ p, x.block < W.heap.size := fun x hx => hW'.lt x (by simpa using hx)
  have hA1 := hA
  obtain ⟨v0, vs0, d0, ds0, p0, q0, ha0, rfl, rfl, h0, hA⟩ := trodAll_cons hA
  obtain ⟨v1, vs1, d1, ds1, p1, q1, rfl, rfl, rfl, h1, hA⟩ := trodAll_cons hA
  obtain ⟨v2, vs2, d2, ds2, p2, q2, rfl, rfl, rfl, h2, hA⟩ := trodAll_cons hA
  obtain ⟨v3, vs3, d3, ds3, p3, q3, rfl, rfl, rfl, h3, hA⟩ := trodAll_cons hA
  obtain ⟨v4, vs4, d4, ds4, p4, q4, rfl, rfl, rfl, h4, hA⟩ := trodAll_cons hA
  obtain ⟨rfl, rfl, rfl⟩ := trodAll_nil hA
  obtain ⟨args⟩ := args
  obtain rfl : args = [v0, v1, v2, v3, v4] := ha0
  have hcp : Tryz.checked.prog = Tryz.prog := rfl
  rw [hcp] at hval
  have hv : ∀ (j : Nat) t v, [4, 4, 4, 4, 3][j]? = some t → [v0, v1, v2, v3, v4][j]? = some v → Value.okWide Tryz.prog W .any base t v := fun j t v h5 h6 => hval j t v (by rw [Tryz.params6, ← Array.getElem?_toList]; exact h5) (by rw [← Array.getElem?_toList]; exact h6)
  obtain ⟨c0, w0, e0⟩ := read_arg hT (n := 6) (t := 4) rfl (hv 0 4 v0 rfl rfl) h0
  obtain ⟨c1, w1, e1⟩ := read_arg hT (n := 6) (t := 4) rfl (hv 1 4 v1 rfl rfl) h1
  obtain ⟨c2, w2, e2⟩ := read_arg hT (n := 6) (t := 4) rfl (hv 2 4 v2 rfl rfl) h2
  obtain ⟨c3, w3, e3⟩ := read_arg hT (n := 6) (t := 4) rfl (hv 3 4 v3 rfl rfl) h3
  obtain ⟨c4, w4, e4⟩ := read_arg hT (n := 6) (t := 3) rfl (hv 4 3 v4 rfl rfl) h4
  obtain ⟨b0, rfl⟩ := wt_bool (t := 4) rfl w0
  obtain ⟨b1, rfl⟩ := wt_bool (t := 4) rfl w1
  obtain ⟨b2, rfl⟩ := wt_bool (t := 4) rfl w2
  obtain ⟨b3, rfl⟩ := wt_bool (t := 4) rfl w3
  obtain ⟨n, rfl, _⟩ := wt_int (t := 3) rfl w4
  obtain ⟨hsz, hG⟩ := gm_of hsh
  have hL : laidMet Tryz.prog Rows.intentStatementsRow.laid W := by rw [← MakeChecks.laidMetH_plain _ _ _ (by kernel_rfl)]; exact hX
  have hGD := gd_of (laid_tail hL)
  have hden : ∀ (i : Nat) p v, ([PV.bool b0, .bool b1, .bool b2, .bool b3, .int .i64 n] : List PV)[i]? = some p → [v0, v1, v2, v3, v4][i]? = some v → Den (oldB W) W [] p v := by
    intro i p v hp hv
    match i, hp, hv with
    | 0, hp, hv => cases hp; cases hv; exact e0
    | 1, hp, hv => cases hp; cases hv; exact e1
    | 2, hp, hv => cases hp; cases hv; exact e2
    | 3, hp, hv => cases hp; cases hv; exact e3
    | 4, hp, hv => cases hp; cases hv; exact e4
  have hc := c6 (Gl := ⟨3, fun b => W.heap[b]?⟩) hG hGD b0 b1 b2 b3 n
  refine (calls_of 3 hsz hc rfl hden).mono ?_
  rintro e W' ⟨r, v, A', rfl, rfl, hd, hb⟩
  obtain rfl := hd.bool_inv
  exact ⟨_, rfl, _, _, _, [], _, [], hW', trodAll_mk1 (shut_bool Tryz.underlying4 _), trodAll_below laidOut hb (by kernel_rfl) hA1 hlt, rfl, hb.frame _, fun h => by cases h⟩
theorem statements_row : Rows.IntentStatementsSaid :=
  OpenClaim.holds_of_wide 6 Tryz.f6 rfl rfl rfl rfl rfl rfl rfl ⟨rfl, rfl, rfl, rfl, rfl⟩ rfl rfl rfl rfl rfl (by kernel_rfl) Tryz.func6 (by kernel_rfl)
    (of_decide_eq_true (by kernel_rfl)) (by unfold Func.isWrapper; first | (rw [if_pos (by decide +kernel)]; kernel_rfl) | (rw [if_neg (by decide +kernel)]; exact ⟨rfl, rfl⟩))
    (fun os started H enc _ => statements_lifted os started H enc)
theorem intentStatements_holds : Rows.IntentStatementsCardSaid :=
  Claim7.holds_tied_plain_at .later [] [.data, .widerDeep, .pinned] true (true, "62c0b9be11b2f550500d3f9420098af978f58f6e9c3a6c2665b687ce57110d36") false statements_row (fun _ h => by cases h) (by kernel_rfl) (fun _ h => by cases h) intentStatements_row_tie rfl ⟨rfl, rfl⟩ (by kernel_rfl) rfl
    (fun f fn hf hfn => by
      obtain rfl : f = 6 := Option.some.inj ((show Tryz.prog.funcNamed Tryz.f6.name = some 6 by kernel_rfl).symm.trans hf) |>.symm
      obtain rfl : fn = Tryz.f6 := (Option.some.inj (Tryz.func6.symm.trans hfn)).symm
      exact ⟨by kernel_rfl, fun j t ht => by
        rw [Tryz.params6] at ht
        have hm : t ∈ [4, 4, 4, 4, 3] := by simpa using Array.mem_of_getElem? ht
        have hall : ([4, 4, 4, 4, 3].all fun u => !Tryz.prog.wantsStandIn u) = true := by kernel_rfl
        exact (show Tryz.prog.wantsStandIn t = false by simpa using List.all_eq_true.1 hall t hm)⟩)
    (by kernel_rfl)
#print axioms intentStatements_holds
end Go.Proofs.YtkaobkjcjodffaaGreatDoor
