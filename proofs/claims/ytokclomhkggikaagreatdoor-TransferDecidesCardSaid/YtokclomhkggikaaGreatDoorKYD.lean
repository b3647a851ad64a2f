/-
 TransferDecides returns true at every input, and every argument reads behind the call as it did. Condition of the row: the listed package-level variable starts as the program's text lays it (the card ties it to it).
-/
import Derived.Test.YtokclomhkggikaaGreatDoorKR1
import Derived.Test.YtokclomhkggikaaGreatDoorKYDF
import Derived.Test.YtokclomhkggikaaGreatDoorKU7
import Derived.Test.YtokclomhkggikaaGreatDoorKUO1
import Derived.Test.YtokclomhkggikaaGreatDoorVKES
set_option maxRecDepth 100000
namespace Go.Proofs.YtokclomhkggikaaGreatDoor
open Go Go.Pw Go.RowKit Go.WideShapes Go.ChangeShapes Go.ChangeAt
theorem gl28_ok {Gl : Glob} (hG : GBoxT Gl) : ∀ g cs, Go.Ev.gl28.lookup g = some cs → cs ≠ [] ∧ ∃ xs : List PV, GRow Gl g xs ∧ xs.length = cs.length ∧ ∀ (j : Nat) x v, xs[j]? = some x → cs[j]? = some v → ∃ k n, x = .int k n ∧ v = .int k n := fun g cs h => by
 unfold Go.Ev.gl28 at h
 simp only [List.lookup] at h
 split at h
 ·rename_i hg
  cases h
  obtain rfl : g = 0 := by simpa using hg
  refine ⟨by simp, _, hG, rfl, fun j x v hx hv => ?_⟩
  match j, hx, hv with
  | 0, hx, hv => cases hx; cases hv; exact ⟨_, _, rfl, rfl⟩
  | 1, hx, hv => cases hx; cases hv; exact ⟨_, _, rfl, rfl⟩
  | 2, hx, hv => cases hx; cases hv; exact ⟨_, _, rfl, rfl⟩
  | 3, hx, hv => cases hx; cases hv; exact ⟨_, _, rfl, rfl⟩
  | 4, hx, hv => cases hx; cases hv; exact ⟨_, _, rfl, rfl⟩
  | j + 5, hx, hv => simp at hx
 ·cases h
theorem decides_lifted (os : Os) (started : os.Started) (H : Type) (enc : TypeId × Value → H) :
  ReturnsInHanded {} Tryz.checked os 3 .any (fun w args => (Rows.transferDecidesSpec.pre enc Tryz.prog Tryz.f3 [] false w args ∧ laidMetH Tryz.prog Rows.transferDecidesRow.laid w) ∧ sizedMet enc Tryz.prog Tryz.f3 (OpenSpec.ofChange Rows.transferDecidesSpec) false w args)
   (Rows.transferDecidesSpec.post enc Tryz.prog Tryz.f3 false true false false) := by
 refine handed_shapedX (C := Tryz.checked) (X := fun w _ => laidMetH Tryz.prog Rows.transferDecidesRow.laid w) (fun _ _ _ hh h => h.of_heap hh) ownK started (by kernel_rfl) Tryz.func3
  (ChangeSpec.witness_shaped (enc := enc) (C := Tryz.checked) (os := os) (X := fun w _ => laidMetH Tryz.prog Rows.transferDecidesRow.laid w) false (World.laidAll Tryz.prog os Rows.transferDecidesRow.laid)
   #[.slice none 0 0, .agg #[.int .i64 0, .slice none 0 0, .slice none 0 0, .slice none 0 0, .slice none 0 0, .slice none 0 0], .agg #[.int .i64 0, .slice none 0 0, .slice none 0 0, .slice none 0 0, .slice none 0 0, .slice none 0 0], .agg #[.int .u32 0, .int .u32 0, .int .u8 0, .int .u16 0, .int .u16 0]] 8 (World.laidAll_os _ _ _)
   (World.shaped_of_ZipB (by kernel_rfl) (by kernel_rfl)) (by kernel_rfl) (by kernel_rfl) (by kernel_rfl)
   (by rw [MakeChecks.laidMetH_plain _ _ _ (by kernel_rfl)]; exact laidMet_laidAll _ (by kernel_rfl) (by kernel_rfl))) ?_
 intro W base args ds gs before hval hW hsh hX
 have hW' := hW
 obtain ⟨p, q, hA0, hV, rfl, _, _⟩ := hW
 have hA : DataW.TrodAll enc Tryz.prog W 0 (fun _ => true) true [22, 29, 29, 33] args.toList ds p := by rw [Tryz.params3] at hA0; exact hA0
 obtain ⟨rfl, rfl⟩ := trodVars_none hV
 simp only [List.append_nil] at hW'
 have hlt : ∀ x ∈ p, x.block < W.heap.size := fun x hx => hW'.lt x (by simpa using hx)
 have hA1 := hA
 obtain ⟨v0, vs0, d0, ds0, pp0, qq0, ha0, rfl, rfl, h0, hA⟩ := trodAll_cons hA
 obtain ⟨v1, vs1, d1, ds1, pp1, qq1, rfl, rfl, rfl, h1, hA⟩ := trodAll_cons hA
 obtain ⟨v2, vs2, d2, ds2, pp2, qq2, rfl, rfl, rfl, h2, hA⟩ := trodAll_cons hA
 obtain ⟨v3, vs3, d3, ds3, pp3, qq3, rfl, rfl, rfl, h3, hA⟩ := trodAll_cons hA
 obtain ⟨rfl, rfl, rfl⟩ := trodAll_nil hA
 obtain ⟨args⟩ := args
 obtain rfl : args = [v0, v1, v2, v3] := ha0
 have hcp : Tryz.checked.prog = Tryz.prog := rfl
 rw [hcp] at hval
 have hv : ∀ (j : Nat) t v, [22, 29, 29, 33][j]? = some t → [v0, v1, v2, v3][j]? = some v → Value.okWide Tryz.prog W .any base t v := fun j t v h5 h6 => hval j t v (by rw [Tryz.params3, ← Array.getElem?_toList]; exact h5) (by rw [← Array.getElem?_toList]; exact h6)
 obtain ⟨c0, w0, e0⟩ := read_arg hT (n := 6) (t := 22) rfl (hv 0 22 v0 rfl rfl) h0
 obtain ⟨c1, w1, e1⟩ := read_arg hT (n := 6) (t := 29) rfl (hv 1 29 v1 rfl rfl) h1
 obtain ⟨c2, w2, e2⟩ := read_arg hT (n := 6) (t := 29) rfl (hv 2 29 v2 rfl rfl) h2
 obtain ⟨c3, w3, e3⟩ := read_arg hT (n := 6) (t := 33) rfl (hv 3 33 v3 rfl rfl) h3
 obtain ⟨l, rfl, hll⟩ := wt_ints w0
 obtain ⟨p1, hp1, hx1⟩ := wt_port (n := 0) w1
 have e1' : Den (oldB W) W [] (ePort p1) v1 := hx1 ▸ e1
 obtain ⟨p2, hp2, hx2⟩ := wt_port (n := 0) w2
 have e2' : Den (oldB W) W [] (ePort p2) v2 := hx2 ▸ e2
 obtain ⟨y3, hp3, hx3⟩ := wt_hdr (n := 4) w3
 have e3' : Den (oldB W) W [] (eHdr y3) v3 := hx3 ▸ e3
 have hL : laidMet Tryz.prog Rows.transferDecidesRow.laid W := by rw [← MakeChecks.laidMetH_plain _ _ _ (by kernel_rfl)]; exact hX
 obtain ⟨hsz, hG⟩ := gbt_of hL
 have hden : ∀ (i : Nat) p v, ([(.sl (l.map eInt) : PV), ePort p1, ePort p2, eHdr y3] : List PV)[i]? = some p → [v0, v1, v2, v3][i]? = some v → Den (oldB W) W [] p v := by
  intro i p v hp hv
  match i, hp, hv with
  | 0, hp, hv => cases hp; cases hv; exact e0
  | 1, hp, hv => cases hp; cases hv; exact e1'
  | 2, hp, hv => cases hp; cases hv; exact e2'
  | 3, hp, hv => cases hp; cases hv; exact e3'
 have hc := c_decides (Gl := ⟨1, fun b => W.heap[b]?⟩) hG (of_ev (gl28_ok hG) Go.Ev.sane28) l hll p1 p2 y3 hp3
 refine (calls_of 1 hsz hc rfl hden).mono ?_
 rintro e W' ⟨r, v, A', rfl, rfl, hd, hb⟩
 obtain rfl := hd.bool_inv
 exact ⟨_, rfl, _, _, _, [], _, [], hW', trodAll_mk1 (shut_bool Tryz.underlying4 _), trodAll_below laidOut hb (by kernel_rfl) hA1 hlt, rfl, hb.frame _, fun h => by cases h⟩
theorem decides_row : Rows.TransferDecidesSaid :=
 OpenClaim.holds_of_wide 3 Tryz.f3 rfl rfl rfl rfl rfl rfl rfl ⟨rfl, rfl, rfl, rfl, rfl⟩ rfl rfl rfl rfl rfl (by kernel_rfl) Tryz.func3 decides_closed
  (of_decide_eq_true (by kernel_rfl)) (by unfold Func.isWrapper; first | (rw [if_pos (by decide +kernel)]; kernel_rfl) | (rw [if_neg (by decide +kernel)]; exact ⟨rfl, rfl⟩))
  (fun os started H enc _ => decides_lifted os started H enc)
theorem transferDecides_holds : Rows.TransferDecidesCardSaid :=
 Claim7.holds_tied_plain_at .later [] [.data] true (true, "648bb6d93ba1e342625e493b3d233f21e580267c94249624b49660616ad33637") false decides_row (fun _ h => by cases h) decides_c0 (fun _ h => by cases h) transferDecides_row_tie rfl ⟨rfl, rfl⟩ decides_c1 rfl
  (fun f fn hf hfn => by
   obtain rfl : f = 3 := Option.some.inj (decides_c4.symm.trans hf) |>.symm
   obtain rfl : fn = Tryz.f3 := (Option.some.inj (Tryz.func3.symm.trans hfn)).symm
   exact ⟨decides_c3, fun j t ht => by
    rw [Tryz.params3] at ht
    have hm : t ∈ [22, 29, 29, 33] := by simpa using Array.mem_of_getElem? ht
    simpa using List.all_eq_true.1 decides_c5 t hm⟩)
  decides_c2
#print axioms transferDecides_holds
end Go.Proofs.YtokclomhkggikaaGreatDoor
