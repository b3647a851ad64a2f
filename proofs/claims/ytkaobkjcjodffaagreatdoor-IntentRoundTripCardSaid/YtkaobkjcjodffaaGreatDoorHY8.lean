/-
 IntentRoundTrip returns true at every input, and every argument reads behind the call as it did. Condition of the row: the listed package-level variables start as the program's text lays them (the card ties them to it).
-/
import Derived.Test.YtkaobkjcjodffaaGreatDoorHZ0
import Derived.Test.YtkaobkjcjodffaaGreatDoorHM12
import Derived.Test.YtkaobkjcjodffaaGreatDoorHK17
set_option maxRecDepth 100000
namespace Go.Proofs.YtkaobkjcjodffaaGreatDoor
open Go Go.Pw Go.RowKit Go.WideShapes Go.ChangeShapes Go.ChangeAt
theorem roundtrip_lifted (os : Os) (started : os.Started) (H : Type) (enc : TypeId × Value → H) :
  ReturnsInHanded {} Tryz.checked os 8 .any (fun w args => (Rows.intentRoundTripSpec.pre enc Tryz.prog Tryz.f8 [] false w args ∧ laidMetH Tryz.prog Rows.intentRoundTripRow.laid w) ∧ sizedMet enc Tryz.prog Tryz.f8 (OpenSpec.ofChange Rows.intentRoundTripSpec) false w args)
   (Rows.intentRoundTripSpec.post enc Tryz.prog Tryz.f8 false true false false) := by
 refine handed_shapedS (C := Tryz.checked) (X := fun w _ => laidMetH Tryz.prog Rows.intentRoundTripRow.laid w) (fun _ _ _ hh h => h.of_heap hh) ownK started (by kernel_rfl) Tryz.func8
  (ChangeSpec.witness_shaped (enc := enc) (C := Tryz.checked) (os := os) (X := fun w _ => laidMetH Tryz.prog Rows.intentRoundTripRow.laid w) false (World.laidAll Tryz.prog os Rows.intentRoundTripRow.laid)
   #[.slice none 0 0, .agg #[.slice none 0 0, .slice none 0 0, .slice none 0 0, .slice none 0 0, .slice none 0 0, .slice none 0 0]] 8 (World.laidAll_os _ _ _)
   (World.shaped_of_ZipB (by kernel_rfl) (by kernel_rfl)) (by kernel_rfl) (by kernel_rfl) (by kernel_rfl)
   (by rw [MakeChecks.laidMetH_plain _ _ _ (by kernel_rfl)]; exact laidMet_laidAll _ (by kernel_rfl) (by kernel_rfl))) ?_
 intro W base args ds gs before hval hW hsh hX hwt
 have hW' := hW
 obtain ⟨p, q, hA0, hV, rfl, _, _⟩ := hW
 have hA : DataW.TrodAll enc Tryz.prog W 0 (fun _ => true) true [22, 34] args.toList ds p := by rw [Tryz.params8] at hA0; exact hA0
 obtain ⟨rfl, rfl⟩ := trodVars_none hV
 simp only [List.append_nil] at hW'
 have hlt : ∀ x ∈ p, x.block < W.heap.size := fun x hx => hW'.lt x (by simpa using hx)
 have hA1 := hA
 obtain ⟨v0, vs0, d0, ds0, p0, q0, ha0, rfl, rfl, h0, hA⟩ := trodAll_cons hA
 obtain ⟨v1, vs1, d1, ds1, p1, q1, rfl, rfl, rfl, h1, hA⟩ := trodAll_cons hA
 obtain ⟨rfl, rfl, rfl⟩ := trodAll_nil hA
 obtain ⟨args⟩ := args
 obtain rfl : args = [v0, v1] := ha0
 have hcp : Tryz.checked.prog = Tryz.prog := rfl
 rw [hcp] at hval
 have hv : ∀ (j : Nat) t v, [22, 34][j]? = some t → [v0, v1][j]? = some v → Value.okWide Tryz.prog W .any base t v := fun j t v h5 h6 => hval j t v (by rw [Tryz.params8, ← Array.getElem?_toList]; exact h5) (by rw [← Array.getElem?_toList]; exact h6)
 obtain ⟨c0, w0, e0⟩ := read_arg hT (n := 6) (t := 22) rfl (hv 0 22 v0 rfl rfl) h0
 have hw1 := weightsEach_all hwt 1 34 d1 (by rw [Tryz.params8]; rfl) rfl
 obtain ⟨c1, w1, r1, e1⟩ := read_argW hT (n := 7) (t := 34) rfl (hv 1 34 v1 rfl rfl) h1 hw1
 obtain ⟨l, rfl, hll⟩ := wt_ints w0
 obtain ⟨x, hx, hx1⟩ := wt_intent (n := 0) w1 r1
 have e1' : Den (oldB W) W [] (eIntent x) v1 := hx1 ▸ e1
 obtain ⟨hsz, hG⟩ := gm_of hsh
 have hL : laidMet Tryz.prog Rows.intentRoundTripRow.laid W := by rw [← MakeChecks.laidMetH_plain _ _ _ (by kernel_rfl)]; exact hX
 have hGD := gd_of (laid_tail (laid_tail (laid_tail (laid_tail hL))))
 have hGT := gt_of (tab_is (laid_tail (laid_tail hL)))
 have hden : ∀ (i : Nat) p v, ([PV.sl (l.map eInt), eIntent x] : List PV)[i]? = some p → [v0, v1][i]? = some v → Den (oldB W) W [] p v := by
  intro i p v hp hv
  match i, hp, hv with
  | 0, hp, hv => cases hp; cases hv; exact e0
  | 1, hp, hv => cases hp; cases hv; exact e1'
 have hc := c8 (Gl := ⟨3, fun b => W.heap[b]?⟩) hG hGD hGT l hll x hx
 refine (calls_of 3 hsz hc rfl hden).mono ?_
 rintro e W' ⟨r, v, A', rfl, rfl, hd, hb⟩
 obtain rfl := hd.bool_inv
 exact ⟨_, rfl, _, _, _, [], _, [], hW', trodAll_mk1 (shut_bool Tryz.underlying4 _), trodAll_below laidOut hb (by kernel_rfl) hA1 hlt, rfl, hb.frame _, fun h => by cases h⟩
theorem roundtrip_f0 : laidOutB Tryz.prog = true := by kernel_rfl
theorem roundtrip_f1 : mapsRowed Tryz.prog = true := by kernel_rfl
theorem roundtrip_f2 : (Rows.intentRoundTripRow.inPlace == Tryz.prog.inPlace 8) = true := by kernel_rfl
theorem roundtrip_f3 : (Rows.intentRoundTripRow.unfollowed == Tryz.prog.unfollowed 8) = true := by kernel_rfl
theorem roundtrip_f4 : (Rows.intentRoundTripRow.recurses == Tryz.prog.recurses 8) = true := by kernel_rfl
theorem roundtrip_f5 : (Rows.intentRoundTripRow.named == Tryz.prog.varsNamed 8) = true := by kernel_rfl
theorem roundtrip_f6 : (Rows.intentRoundTripRow.loops == (Tryz.f8.params.toList ++ Rows.intentRoundTripSpec.plain.varTypes Tryz.prog).any (Tryz.prog.loopsFrom ·)) = true := by kernel_rfl
theorem roundtrip_closed : joinedFacts Tryz.prog 8 Tryz.f8 Rows.intentRoundTripSpec Rows.intentRoundTripRow = true := by
 unfold joinedFacts
 rw [roundtrip_f0, roundtrip_f1, roundtrip_f2, roundtrip_f3, roundtrip_f4, roundtrip_f5, roundtrip_f6]
 kernel_rfl
theorem roundtrip_row : Rows.IntentRoundTripSaid :=
 OpenClaim.holds_of_wide 8 Tryz.f8 rfl rfl rfl rfl rfl rfl rfl ⟨rfl, rfl, rfl, rfl, rfl⟩ rfl rfl rfl rfl rfl (by kernel_rfl) Tryz.func8 roundtrip_closed
  (of_decide_eq_true (by kernel_rfl)) (by unfold Func.isWrapper; first | (rw [if_pos (by decide +kernel)]; kernel_rfl) | (rw [if_neg (by decide +kernel)]; exact ⟨rfl, rfl⟩))
  (fun os started H enc _ => roundtrip_lifted os started H enc)
theorem intentRoundTrip_holds : Rows.IntentRoundTripCardSaid :=
 Claim7.holds_tied_plain_at .later [] [.data, .data, .data, .data, .widerDeep, .pinned] true (true, "62c0b9be11b2f550500d3f9420098af978f58f6e9c3a6c2665b687ce57110d36") false roundtrip_row (fun _ h => by cases h) (by kernel_rfl) (fun _ h => by cases h) intentRoundTrip_row_tie rfl ⟨rfl, rfl⟩ (by kernel_rfl) rfl
  (fun f fn hf hfn => by
   obtain rfl : f = 8 := Option.some.inj ((show Tryz.prog.funcNamed Tryz.f8.name = some 8 by kernel_rfl).symm.trans hf) |>.symm
   obtain rfl : fn = Tryz.f8 := (Option.some.inj (Tryz.func8.symm.trans hfn)).symm
   exact ⟨by kernel_rfl, fun j t ht => by
    rw [Tryz.params8] at ht
    have hm : t ∈ [22, 34] := by simpa using Array.mem_of_getElem? ht
    have hall : ([22, 34].all fun u => !Tryz.prog.wantsStandIn u) = true := by kernel_rfl
    exact (show Tryz.prog.wantsStandIn t = false by simpa using List.all_eq_true.1 hall t hm)⟩)
  (by kernel_rfl)
#print axioms intentRoundTrip_holds
end Go.Proofs.YtkaobkjcjodffaaGreatDoor
