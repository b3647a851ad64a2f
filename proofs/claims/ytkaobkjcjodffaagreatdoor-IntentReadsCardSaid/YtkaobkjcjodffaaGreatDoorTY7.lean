/-
 IntentReads returns true at every input, and every argument reads behind the call as it did. Condition of the row: the listed package-level variables start as the program's text lays them (the card ties them to it).
-/
import Derived.Test.YtkaobkjcjodffaaGreatDoorTZ0
import Derived.Test.YtkaobkjcjodffaaGreatDoorTR2
import Derived.Test.YtkaobkjcjodffaaGreatDoorTK17
set_option maxRecDepth 100000
namespace Go.Proofs.YtkaobkjcjodffaaGreatDoor
open Go Go.Pw Go.RowKit Go.WideShapes Go.ChangeShapes Go.ChangeAt
theorem reads_lifted (os : Os) (started : os.Started) (H : Type) (enc : TypeId × Value → H) :
  ReturnsInHanded {} Tryz.checked os 7 .any (fun w args => (Rows.intentReadsSpec.pre enc Tryz.prog Tryz.f7 [] false w args ∧ laidMetH Tryz.prog Rows.intentReadsRow.laid w) ∧ sizedMet enc Tryz.prog Tryz.f7 (OpenSpec.ofChange Rows.intentReadsSpec) false w args)
   (Rows.intentReadsSpec.post enc Tryz.prog Tryz.f7 false true false false) := by
 refine handed_shapedS (C := Tryz.checked) (X := fun w _ => laidMetH Tryz.prog Rows.intentReadsRow.laid w) (fun _ _ _ hh h => h.of_heap hh) ownK started (by kernel_rfl) Tryz.func7
  (ChangeSpec.witness_shaped (enc := enc) (C := Tryz.checked) (os := os) (X := fun w _ => laidMetH Tryz.prog Rows.intentReadsRow.laid w) false (World.laidAll Tryz.prog os Rows.intentReadsRow.laid)
   #[.slice none 0 0, .agg #[.slice none 0 0, .slice none 0 0, .slice none 0 0, .slice none 0 0, .slice none 0 0, .slice none 0 0]] 8 (World.laidAll_os _ _ _)
   (World.shaped_of_ZipB (by kernel_rfl) (by kernel_rfl)) (by kernel_rfl) (by kernel_rfl) (by kernel_rfl)
   (by rw [MakeChecks.laidMetH_plain _ _ _ (by kernel_rfl)]; exact laidMet_laidAll _ (by kernel_rfl) (by kernel_rfl))) ?_
 intro W base args ds gs before hval hW hsh hX hwt
 have hW' := hW
 obtain ⟨p, q, hA0, hV, rfl, _, _⟩ := hW
 have hA : DataW.TrodAll enc Tryz.prog W 0 (fun _ => true) true [22, 34] args.toList ds p := by rw [Tryz.params7] at hA0; exact hA0
 obtain ⟨rfl, rfl⟩ := trodVars_none hV
 simp only [List.append_nil] at hW'
 have hlt : ∀ x ∈ p, x.block < W.heap.size := fun x hx => hW'.lt x (by simpa using hx)
 have hA1 := hA
 obtain ⟨v0, vs0, d0, ds0, p0, q0, ha0, rfl, rfl, h0, hA⟩ := trodAll_cons hA
 obtain ⟨v1, vs1, d1, ds1, p1, q1, rfl, rfl, rfl, h1, hA⟩ := trodAll_cons hA
 obtain ⟨rfl, rfl, rfl⟩ := trodAll_nil hA
 obtain ⟨args⟩ := args
 obtain rfl : args = [v0, v1] := ha0
 have hcp : Tryz.checked.prog = Tryz.prog := rfl
 rw [hcp] at hval
 have hv : ∀ (j : Nat) t v, [22, 34][j]? = some t → [v0, v1][j]? = some v → Value.okWide Tryz.prog W .any base t v := fun j t v h5 h6 => hval j t v (by rw [Tryz.params7, ← Array.getElem?_toList]; exact h5) (by rw [← Array.getElem?_toList]; exact h6)
 obtain ⟨c0, w0, e0⟩ := read_arg hT (n := 6) (t := 22) rfl (hv 0 22 v0 rfl rfl) h0
 have hw1 := weightsEach_all hwt 1 34 d1 (by rw [Tryz.params7]; rfl) rfl
 obtain ⟨c1, w1, r1, e1⟩ := read_argW hT (n := 7) (t := 34) rfl (hv 1 34 v1 rfl rfl) h1 hw1
 obtain ⟨l, rfl, hll⟩ := wt_ints w0
 obtain ⟨x, hx, hx1⟩ := wt_intent (n := 0) w1 r1
 have e1' : Den (oldB W) W [] (eIntent x) v1 := hx1 ▸ e1
 obtain ⟨hsz, hG⟩ := gm_of hsh
 have hL : laidMet Tryz.prog Rows.intentReadsRow.laid W := by rw [← MakeChecks.laidMetH_plain _ _ _ (by kernel_rfl)]; exact hX
 have hGD := gd_of (laid_tail (laid_tail (laid_tail (laid_tail hL))))
 have hGT := gt_of (tab_is (laid_tail (laid_tail hL)))
 have hden : ∀ (i : Nat) p v, ([PV.sl (l.map eInt), eIntent x] : List PV)[i]? = some p → [v0, v1][i]? = some v → Den (oldB W) W [] p v := by
  intro i p v hp hv
  match i, hp, hv with
  | 0, hp, hv => cases hp; cases hv; exact e0
  | 1, hp, hv => cases hp; cases hv; exact e1'
 have hc := c7 (Gl := ⟨3, fun b => W.heap[b]?⟩) hG hGD hGT l hll x hx
 refine (calls_of 3 hsz hc rfl hden).mono ?_
 rintro e W' ⟨r, v, A', rfl, rfl, hd, hb⟩
 obtain rfl := hd.bool_inv
 exact ⟨_, rfl, _, _, _, [], _, [], hW', trodAll_mk1 (shut_bool Tryz.underlying4 _), trodAll_below laidOut hb (by kernel_rfl) hA1 hlt, rfl, hb.frame _, fun h => by cases h⟩
theorem reads_f0 : laidOutB Tryz.prog = true := by kernel_rfl
theorem reads_f1 : mapsRowed Tryz.prog = true := by kernel_rfl
theorem reads_f2 : (Rows.intentReadsRow.inPlace == Tryz.prog.inPlace 7) = true := by kernel_rfl
theorem reads_f3 : (Rows.intentReadsRow.unfollowed == Tryz.prog.unfollowed 7) = true := by kernel_rfl
theorem reads_f4 : (Rows.intentReadsRow.recurses == Tryz.prog.recurses 7) = true := by kernel_rfl
theorem reads_f5 : (Rows.intentReadsRow.named == Tryz.prog.varsNamed 7) = true := by kernel_rfl
theorem reads_f6 : (Rows.intentReadsRow.loops == (Tryz.f7.params.toList ++ Rows.intentReadsSpec.plain.varTypes Tryz.prog).any (Tryz.prog.loopsFrom ·)) = true := by kernel_rfl
theorem reads_closed : joinedFacts Tryz.prog 7 Tryz.f7 Rows.intentReadsSpec Rows.intentReadsRow = true := by
 unfold joinedFacts
 rw [reads_f0, reads_f1, reads_f2, reads_f3, reads_f4, reads_f5, reads_f6]
 kernel_rfl
theorem reads_row : Rows.IntentReadsSaid :=
 OpenClaim.holds_of_wide 7 Tryz.f7 rfl rfl rfl rfl rfl rfl rfl ⟨rfl, rfl, rfl, rfl, rfl⟩ rfl rfl rfl rfl rfl (by kernel_rfl) Tryz.func7 reads_closed
  (of_decide_eq_true (by kernel_rfl)) (by unfold Func.isWrapper; first | (rw [if_pos (by decide +kernel)]; kernel_rfl) | (rw [if_neg (by decide +kernel)]; exact ⟨rfl, rfl⟩))
  (fun os started H enc _ => reads_lifted os started H enc)
theorem intentReads_holds : Rows.IntentReadsCardSaid :=
 Claim7.holds_tied_plain_at .later [] [.data, .data, .data, .data, .widerDeep, .pinned] true (true, "62c0b9be11b2f550500d3f9420098af978f58f6e9c3a6c2665b687ce57110d36") false reads_row (fun _ h => by cases h) (by kernel_rfl) (fun _ h => by cases h) intentReads_row_tie rfl ⟨rfl, rfl⟩ (by kernel_rfl) rfl
  (fun f fn hf hfn => by
   obtain rfl : f = 7 := Option.some.inj ((show Tryz.prog.funcNamed Tryz.f7.name = some 7 by kernel_rfl).symm.trans hf) |>.symm
   obtain rfl : fn = Tryz.f7 := (Option.some.inj (Tryz.func7.symm.trans hfn)).symm
   exact ⟨by kernel_rfl, fun j t ht => by
    rw [Tryz.params7] at ht
    have hm : t ∈ [22, 34] := by simpa using Array.mem_of_getElem? ht
    have hall : ([22, 34].all fun u => !Tryz.prog.wantsStandIn u) = true := by kernel_rfl
    exact (show Tryz.prog.wantsStandIn t = false by simpa using List.all_eq_true.1 hall t hm)⟩)
  (by kernel_rfl)
#print axioms intentReads_holds
end Go.Proofs.YtkaobkjcjodffaaGreatDoor
