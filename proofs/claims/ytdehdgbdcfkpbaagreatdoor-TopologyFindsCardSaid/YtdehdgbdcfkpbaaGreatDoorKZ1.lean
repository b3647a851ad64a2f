/-
  TopologyFinds returns true at every input, and every argument reads behind the call as it did. Condition of the row: the listed package-level variables start as the program's text lays them (the card ties them to it).
-/
import Derived.Test.YtdehdgbdcfkpbaaGreatDoorCards
import Derived.Test.YtdehdgbdcfkpbaaGreatDoorTie
import Derived.Test.YtdehdgbdcfkpbaaGreatDoorKR1
import Derived.Test.YtdehdgbdcfkpbaaGreatDoorKD4
import Derived.Lay
import Derived.LaidOnce
import Derived.Shelf.Vars
import Derived.SevenTiedAt
namespace Go.Proofs.YtdehdgbdcfkpbaaGreatDoor
open Go Go.Pw Go.RowKit Go.WideShapes Go.ChangeShapes Go.ChangeAt
theorem ownK : ownKnob Tryz.prog.godebug = none := by kernel_rfl
theorem laidOut : laidOutB Tryz.prog = true := by kernel_rfl
theorem maxLen_cell {W : World} (h : W.ShapedOpen Tryz.prog) : ∃ m, W.cell? ⟨1, 0, none⟩ = some (.int .i64 m) :=
  cell_of_shapedOpen_int (t := 3) (zero := #[.int .i64 0]) h (of_decide_eq_true (by kernel_rfl)) (by kernel_rfl) rfl (by kernel_rfl) (by kernel_rfl) Tryz.underlying3
/-- The variables' blocks, as they stand. -/
theorem gm_of {W : World} (h : W.ShapedOpen Tryz.prog) : 2 ≤ W.heap.size ∧ GM ⟨2, fun b => W.heap[b]?⟩ := by
  obtain ⟨m, hm⟩ := maxLen_cell h
  refine ⟨?_, fun w hw => ⟨m, ?_⟩⟩
  · unfold World.cell? at hm
    split at hm
    · rename_i hh
      exact (Array.getElem?_eq_some_iff.1 hh).1
    · cases hm
  · rw [cell_same (w := W) (hw 1 (show 1 < 2 by decide)) 0]
    exact hm
set_option maxRecDepth 100000
theorem finds_lifted (os : Os) (started : os.Started) (H : Type) (enc : TypeId × Value → H) :
    ReturnsInHanded {} Tryz.checked os 6 .any (fun w args => (Rows.topologyFindsSpec.pre enc Tryz.prog Tryz.f6 [] false w args ∧ laidMetH Tryz.prog Rows.topologyFindsRow.laid w) ∧ sizedMet enc Tryz.prog Tryz.f6 (OpenSpec.ofChange Rows.topologyFindsSpec) false w args)
      (Rows.topologyFindsSpec.post enc Tryz.prog Tryz.f6 false true false false) := by
  refine handed_shaped (C := Tryz.checked) (X := fun w _ => laidMetH Tryz.prog Rows.topologyFindsRow.laid w) (fun _ _ _ hh h => h.of_heap hh) ownK started (by kernel_rfl) Tryz.func6
    (ChangeSpec.witness_shaped (enc := enc) (C := Tryz.checked) (os := os) (X := fun w _ => laidMetH Tryz.prog Rows.topologyFindsRow.laid w) false (World.laidAll Tryz.prog os Rows.topologyFindsRow.laid)
      #[.slice none 0 0, .agg #[.slice none 0 0, .slice none 0 0, .slice none 0 0, .slice none 0 0, .int .i64 0], .string ⟨#[]⟩, .int .u32 0, .int .i64 0] 8 (World.laidAll_os _ _ _)
      (World.shaped_of_ZipB (by kernel_rfl) (by kernel_rfl)) (by kernel_rfl) (by kernel_rfl) (by kernel_rfl)
      (by rw [MakeChecks.laidMetH_plain _ _ _ (by kernel_rfl)]; exact laidMet_laidAll _ (by kernel_rfl) (by kernel_rfl))) ?_
  intro W base args ds gs before hval hW hsh
  have hW' := hW
  obtain ⟨p, q, hA0, hV, rfl, _, _⟩ := hW
  have hA : DataW.TrodAll enc Tryz.prog W 0 (fun _ => true) true [22, 33, 9, 41, 3] args.toList ds p := by rw [Tryz.params6] at hA0; exact hA0
  obtain ⟨rfl, rfl⟩ := trodVars_none hV
  simp only [List.append_nil] at hW'
  have hlt : ∀ x ∈ p, x.block < W.heap.size := fun x hx => hW'.lt x (by simpa using hx)
  have hA1 := hA
  obtain ⟨v0, vs0, d0, ds0, p0, q0, ha0, rfl, rfl, h0, hA⟩ := trodAll_cons hA
  obtain ⟨v1, vs1, d1, ds1, p1, q1, rfl, rfl, rfl, h1, hA⟩ := trodAll_cons hA
  obtain ⟨v2, vs2, d2, ds2, p2, q2, rfl, rfl, rfl, h2, hA⟩ := trodAll_cons hA
  obtain ⟨v3, vs3, d3, ds3, p3, q3, rfl, rfl, rfl, h3, hA⟩ := trodAll_cons hA
  obtain ⟨v4, vs4, d4, ds4, p4, q4, rfl, rfl, rfl, h4, hA⟩ := trodAll_cons hA
  obtain ⟨rfl, rfl, rfl⟩ := trodAll_nil hA
  obtain ⟨args⟩ := args
  obtain rfl : args = [v0, v1, v2, v3, v4] := ha0
  have hcp : Tryz.checked.prog = Tryz.prog := rfl
  rw [hcp] at hval
  have hv : ∀ (j : Nat) t v, [22, 33, 9, 41, 3][j]? = some t → [v0, v1, v2, v3, v4][j]? = some v → Value.okWide Tryz.prog W .any base t v := fun j t v h5 h6 => hval j t v (by rw [Tryz.params6, ← Array.getElem?_toList]; exact h5) (by rw [← Array.getElem?_toList]; exact h6)
  obtain ⟨c0, w0, e0⟩ := read_arg hT (n := 6) (t := 22) rfl (hv 0 22 v0 rfl rfl) h0
  obtain ⟨c1, w1, e1⟩ := read_arg hT (n := 6) (t := 33) rfl (hv 1 33 v1 rfl rfl) h1
  obtain ⟨c2, w2, e2⟩ := read_arg hT (n := 6) (t := 9) rfl (hv 2 9 v2 rfl rfl) h2
  obtain ⟨c3, w3, e3⟩ := read_arg hT (n := 6) (t := 41) rfl (hv 3 41 v3 rfl rfl) h3
  obtain ⟨c4, w4, e4⟩ := read_arg hT (n := 6) (t := 3) rfl (hv 4 3 v4 rfl rfl) h4
  obtain ⟨l, rfl, hll⟩ := wt_ints w0
  obtain ⟨x, hx, hx1⟩ := wt_topo w1
  obtain ⟨s, rfl⟩ := wt_str (t := 9) rfl w2
  obtain ⟨a, rfl, ha⟩ := wt_int (t := 41) rfl w3
  obtain ⟨n, rfl, _⟩ := wt_int (t := 3) rfl w4
  have e1' : Den (oldB W) W [] (eTopo x) v1 := hx1 ▸ e1
  obtain ⟨hsz, hG⟩ := gm_of hsh
  have hden : ∀ (i : Nat) p v, [PV.sl (l.map eInt), eTopo x, .str s, .int .u32 a, .int .i64 n][i]? = some p → [v0, v1, v2, v3, v4][i]? = some v → Den (oldB W) W [] p v := by
    intro i p v hp hv
    match i, hp, hv with
    | 0, hp, hv => cases hp; cases hv; exact e0
    | 1, hp, hv => cases hp; cases hv; exact e1'
    | 2, hp, hv => cases hp; cases hv; exact e2
    | 3, hp, hv => cases hp; cases hv; exact e3
    | 4, hp, hv => cases hp; cases hv; exact e4
  have hc := c6 (Gl := ⟨2, fun b => W.heap[b]?⟩) hG l hll x ⟨hx.ein⟩ s a n (u32_bounds ha)
  refine (calls_of 2 hsz hc rfl hden).mono ?_
  rintro e W' ⟨r, v, A', rfl, rfl, hd, hb⟩
  obtain rfl := hd.bool_inv
  exact ⟨_, rfl, _, _, _, [], _, [], hW', trodAll_mk1 (shut_bool Tryz.underlying4 _), trodAll_below laidOut hb (by kernel_rfl) hA1 hlt, rfl, hb.frame _, fun h => by cases h⟩
theorem finds_row : Rows.TopologyFindsSaid :=
  OpenClaim.holds_of_wide 6 Tryz.f6 rfl rfl rfl rfl rfl rfl rfl ⟨rfl, rfl, rfl, rfl, rfl⟩ rfl rfl rfl rfl rfl (by kernel_rfl) Tryz.func6 (by kernel_rfl)
    (of_decide_eq_true (by kernel_rfl)) (by unfold Func.isWrapper; first | (rw [if_pos (by decide +kernel)]; kernel_rfl) | (rw [if_neg (by decide +kernel)]; exact ⟨rfl, rfl⟩))
    (fun os started H enc _ => finds_lifted os started H enc)
theorem topologyFinds_holds : Rows.TopologyFindsCardSaid :=
  Claim7.holds_tied_plain_at .later [] [.data, .pinned] true (true, "2be2f03a9c5c38e61ece54f38ccbf2125c12534e17ea7248e05208d70086c0d8") false finds_row (fun _ h => by cases h) (by kernel_rfl) (fun _ h => by cases h) topologyFinds_row_tie rfl ⟨rfl, rfl⟩ (by kernel_rfl) rfl
    (fun f fn hf hfn => by
      obtain rfl : f = 6 := Option.some.inj ((show Tryz.prog.funcNamed Tryz.f6.name = some 6 by kernel_rfl).symm.trans hf) |>.symm
      obtain rfl : fn = Tryz.f6 := (Option.some.inj (Tryz.func6.symm.trans hfn)).symm
      exact ⟨by kernel_rfl, fun j t ht => by
        rw [Tryz.params6] at ht
        have hm : t ∈ [22, 33, 9, 41, 3] := by simpa using Array.mem_of_getElem? ht
        have hall : ([22, 33, 9, 41, 3].all fun u => !Tryz.prog.wantsStandIn u) = true := by kernel_rfl
        exact (show Tryz.prog.wantsStandIn t = false by simpa using List.all_eq_true.1 hall t hm)⟩)
    (by kernel_rfl)
#print axioms topologyFinds_holds
end Go.Proofs.YtdehdgbdcfkpbaaGreatDoor
