/-
  Contracts of functions, walked over pure values.
-/
import Derived.Test.YtdehdgbdcfkpbaaGreatDoorKB6
import Derived.Test.YtdehdgbdcfkpbaaGreatDoorJPwLoop
namespace Go.Proofs.YtdehdgbdcfkpbaaGreatDoor
open Go Go.Pw
variable {Gl : Glob}
attribute [local irreducible] PW PWL OpP PCalls PWO
set_option maxHeartbeats 20000000

/-! ### prefix.ParseAddr -/
def eU (n : Int) : PV := .int .u32 n
def orB (a b : Int) : Int := IntKind.u32.wrap (BitVec.ofInt 32 a ||| BitVec.ofInt 32 b).toNat
def shlB (a : Int) (n : Nat) : Int := IntKind.u32.wrap (a * 2 ^ n)
def joinA (p : List Int) : Int := orB (orB (orB (shlB (p.getD 0 0) 24) (shlB (p.getD 1 0) 16)) (shlB (p.getD 2 0) 8)) (p.getD 3 0)
def aRun : Str → List Int → Nat → Nat → Option Int
  | [], p, n, d => if n ≠ 3 ∨ d = 0 then none else some (joinA p)
  | c :: s, p, n, d =>
    if c.toNat = 46 then (if d = 0 ∨ n = 3 then none else aRun s p (n + 1) 0)
    else if c.toNat < 48 ∨ c.toNat > 57 then none
    else if 0 < d ∧ p.getD n 0 = 0 then none
    else if 10 * p.getD n 0 + ((c.toNat : Int) - 48) > 255 then none
    else aRun s (p.set n (10 * p.getD n 0 + ((c.toNat : Int) - 48))) n (d + 1)
def addrO (o : Option Int) : Int × Bool := match o with | some v => (v, true) | none => (0, false)
def addr (s : Str) : Int × Bool := addrO (aRun s [0, 0, 0, 0] 0 0)
def addrR (o : Option Int) (r : PV) : Prop := r = .tup [.int .u32 (addrO o).1, .bool (addrO o).2]
theorem eU_get (p : List Int) (n : Nat) (hp : p.length = 4) (hn : n ≤ 3) : (p.map eU)[n]? = some (.int .u32 (p.getD n 0)) := by
  rw [List.getElem?_map, List.getD, List.getElem?_eq_getElem (by omega)]; rfl
theorem eU_set (p : List Int) (n : Nat) (v : Int) (hp : p.length = 4) (hn : n ≤ 3) : splice (p.map eU) n [.int .u32 v] = (p.set n v).map eU := by
  apply List.ext_getElem?
  intro j
  rw [splice, splice_get _ _ _ _ (by simp; omega), List.map_set, List.getElem?_set]
  by_cases h : n = j
  · subst h; simp [eU]; omega
  · rw [if_neg (by simp; omega), if_neg h]
theorem c129 (s : Str) (hl : Small s) : PFun Tryz.prog Gl 129 [.str s] fun r => addrR (aRun s [0, 0, 0, 0] 0 0) r := by
  refine PFun.of hT Tryz.func129 rfl fun B hD => ?_
  refine pw_norm rfl ?_
  unfold Small at hl
  (refine zGo ?_)
  refine pw_scope ?_ (fun l env st h => h)
  (refine zGo ?_)
  refine pw_label ?_
  (refine zGo ?_)
  refine pw_for hD (fun a : Nat × List Int × Nat × Nat => [(7, .int .i64 a.1), (5, .int .i64 a.2.2.1), (6, .int .i64 a.2.2.2)]) (fun a => [.box (a.2.1.map eU)])
    (fun a => aRun (s.drop a.1) a.2.1 a.2.2.1 a.2.2.2 = aRun s [0, 0, 0, 0] 0 0 ∧ a.1 ≤ s.length ∧ a.2.1.length = 4 ∧ (∀ v ∈ a.2.1, 0 ≤ v ∧ v ≤ 255) ∧ a.2.2.1 ≤ 3 ∧ a.2.2.2 ≤ a.1) (fun a => s.length - a.1) (0, [0, 0, 0, 0], 0, 0) ⟨rfl, Nat.zero_le _, rfl, by decide, by decide, by decide⟩ 1 rfl (fun _ => rfl)
    (by (exact zLes)) (fun _ => rfl) (fun a => by simp [PObj.refs, PV.refs, eU]) (by (exact zLe)) ?_
  rintro ⟨i, p, n, d⟩ ⟨hw, hi, hp, hv, hn, hd⟩
  dsimp only
  have hi : i ≤ s.length := hi
  have hp : p.length = 4 := hp
  have hn : n ≤ 3 := hn
  have hd : d ≤ i := hd
  have hw : aRun (s.drop i) p n d = aRun s [0, 0, 0, 0] 0 0 := hw
  have hgp : 0 ≤ p.getD n 0 ∧ p.getD n 0 ≤ 255 := by
    have hlt : n < p.length := by omega
    rw [List.getD, List.getElem?_eq_getElem hlt]
    exact hv _ (List.getElem_mem hlt)
  have hget := eU_get p n hp hn
  (refine zGo ?_)
  refine pw_cond rfl (fun h => ?_) (fun h => ?_)
  · simp only [decide_eq_true_eq] at h
    have hlt : i < s.length := by omega
    rw [List.drop_eq_getElem_cons hlt] at hw
    simp only [aRun] at hw
    (refine zGo ?_)
    (refine pl_op rfl (op_of (v_indexs (c := s[i]) hT rfl rfl rfl rfl (by omega) (by simp [hlt])) ?_); (refine zNp ?_))
    (refine zGo ?_)
    refine pw_cond rfl (fun h1 => ?_) (fun h1 => ?_)
    · have hc : s[i].toNat = 46 := by simp at h1; omega
      rw [if_pos hc] at hw
      (refine zGo ?_)
      (refine pl_or 3 23 26 ((n : Int) == 3) rfl rfl rfl (fun hb => ?_) (fun hb => ?_) ?_; (focus ((refine zNp ?_); (refine zGo ?_); exact ⟨by (exact zLe), StLe.refl _⟩)); (focus ((refine zNp ?_); (refine zGo ?_); exact ⟨by (exact zLe), StLe.refl _⟩)); (refine zNp ?_); (refine zGo ?_))
      refine pw_cond rfl (fun h2 => ?_) (fun h2 => ?_)
      · rw [if_pos (by simp at h2; omega)] at hw
        (refine zGo ?_)
        refine ret1 _ rfl ?_ rfl
        rw [← hw]; rfl
      · have h2' : ¬ d = 0 ∧ ¬ n = 3 := by simp at h2; omega
        rw [if_neg (by omega)] at hw
        (refine zGo ?_)
        refine ⟨(i + 1, p, n + 1, 0), ⟨hw, by show i + 1 ≤ _; omega, hp, hv, by show n + 1 ≤ 3; omega, by show 0 ≤ i + 1; omega⟩, by show _ - (i + 1) < _ - i; omega, by (exact zLe), by (exact zLes)⟩
    · have hc : ¬ s[i].toNat = 46 := by simp at h1; omega
      rw [if_neg hc] at hw
      (refine zGo ?_)
      (refine pl_or 3 32 35 (decide ((s[i].toNat : Int) > 57)) rfl rfl rfl (fun hb => ?_) (fun hb => ?_) ?_; (focus ((refine zNp ?_); (refine zGo ?_); exact ⟨by (exact zLe), StLe.refl _⟩)); (focus ((refine zNp ?_); (refine zGo ?_); exact ⟨by (exact zLe), StLe.refl _⟩)); (refine zNp ?_); (refine zGo ?_))
      refine pw_cond rfl (fun h2 => ?_) (fun h2 => ?_)
      · rw [if_pos (by simp at h2; omega)] at hw
        (refine zGo ?_)
        refine ret1 _ rfl ?_ rfl
        rw [← hw]; rfl
      · have h2' : 48 ≤ s[i].toNat ∧ s[i].toNat ≤ 57 := by simp at h2; omega
        rw [if_neg (by omega)] at hw
        (refine zGo ?_)
        (refine pl_and 5 39 44 (p.getD n 0 == 0) rfl rfl rfl (fun hb => ?_) (fun hb => ?_) ?_; (focus ((refine zNp ?_); (refine zGo ?_); (refine pl_on rfl rfl (op_of (v_indexA hT rfl rfl rfl rfl (by omega) (by omega)) ?_); (refine zNp ?_)); (refine pl_on rfl rfl (op_loadA (x := .int .u32 (p.getD n 0)) hT rfl rfl rfl rfl rfl rfl (by simpa using hget) ?_); (refine zNp ?_)); (refine zGo ?_); exact ⟨by (exact zLe), StLe.refl _⟩)); (focus ((refine zNp ?_); (refine zGo ?_); exact ⟨by (exact zLe), StLe.refl _⟩)); (refine zNp ?_); (refine zGo ?_))
        refine pw_cond rfl (fun h3 => ?_) (fun h3 => ?_)
        · rw [if_pos (by simp only [Bool.and_eq_true, decide_eq_true_eq, beq_iff_eq] at h3; omega)] at hw
          (refine zGo ?_)
          refine ret1 _ rfl ?_ rfl
          rw [← hw]; rfl
        · rw [if_neg (by simp only [Bool.and_eq_false_iff, decide_eq_false_iff_not, beq_eq_false_iff_ne] at h3; omega)] at hw
          (refine zGo ?_)
          (refine pl_op rfl (op_of (v_indexA hT rfl rfl rfl rfl (by omega) (by omega)) ?_); (refine zNp ?_))
          (refine pl_op rfl (op_loadA (x := .int .u32 (p.getD n 0)) hT rfl rfl rfl rfl rfl rfl (by simpa using hget) ?_); (refine zNp ?_))
          (refine pl_op rfl (op_of (v_arith rfl rfl rfl rfl (IntWalk.u32_in _ (by omega))) ?_); (refine zNp ?_))
          (refine zGo ?_)
          (refine pl_op rfl (op_of (v_arith rfl rfl rfl rfl (IntWalk.u8_in _ (by omega))) ?_); (refine zNp ?_))
          (refine pl_op rfl (op_of (v_conv hT rfl rfl rfl rfl (IntWalk.u32_in _ (by omega))) ?_); (refine zNp ?_))
          (refine pl_op rfl (op_of (v_arith rfl rfl rfl rfl (IntWalk.u32_in _ (by omega))) ?_); (refine zNp ?_))
          (refine pl_op rfl (op_of (v_indexA hT rfl rfl rfl rfl (by omega) (by omega)) ?_); (refine zNp ?_))
          refine pl_op rfl (op_storeA (p := .int .u32 (10 * p.getD n 0 + ((s[i].toNat : Int) - 48))) (cs' := (p.set n (10 * p.getD n 0 + ((s[i].toNat : Int) - 48))).map eU) hT rfl rfl rfl rfl rfl rfl rfl rfl (by simp; omega) (by simpa [PV.cells] using eU_set p n (10 * p.getD n 0 + ((s[i].toNat : Int) - 48)) hp hn) ?_)
          (refine zNp ?_)
          (refine zGo ?_)
          have hp2 : (p.set n (10 * p.getD n 0 + ((s[i].toNat : Int) - 48))).length = 4 := by simp [hp]
          have hget2 := eU_get (p.set n (10 * p.getD n 0 + ((s[i].toNat : Int) - 48))) n hp2 hn
          have hval : (p.set n (10 * p.getD n 0 + ((s[i].toNat : Int) - 48))).getD n 0 = 10 * p.getD n 0 + ((s[i].toNat : Int) - 48) := by
            rw [List.getD, List.getElem?_set_self (by omega)]; rfl
          rw [hval] at hget2
          (refine pl_op rfl (op_of (v_indexA hT rfl rfl rfl rfl (by omega) (by omega)) ?_); (refine zNp ?_))
          (refine pl_op rfl (op_loadA (x := .int .u32 (10 * p.getD n 0 + ((s[i].toNat : Int) - 48))) hT rfl rfl rfl rfl rfl rfl (by simpa using hget2) ?_); (refine zNp ?_))
          (refine zGo ?_)
          refine pw_cond rfl (fun h4 => ?_) (fun h4 => ?_)
          · rw [if_pos (by simpa using h4)] at hw
            (refine zGo ?_)
            refine ret1 _ rfl ?_ rfl
            rw [← hw]; rfl
          · rw [if_neg (by simpa using h4)] at hw
            (refine zGo ?_)
            refine ⟨(i + 1, p.set n (10 * p.getD n 0 + ((s[i].toNat : Int) - 48)), n, d + 1), ⟨hw, by show i + 1 ≤ _; omega, hp2, fun v hvm => ?_, hn, by show d + 1 ≤ i + 1; omega⟩, by show _ - (i + 1) < _ - i; omega, by (exact zLe), by (exact zLes)⟩
            rcases List.mem_or_eq_of_mem_set hvm with h5 | h5
            · exact hv v h5
            · have := of_decide_eq_false h4
              omega
  · simp only [decide_eq_false_iff_not] at h
    have hie : i = s.length := by omega
    subst hie
    rw [List.drop_length] at hw
    simp only [aRun] at hw
    (refine zGo ?_)
    (refine pl_or 3 63 66 ((d : Int) == 0) rfl rfl rfl (fun hb => ?_) (fun hb => ?_) ?_; (focus ((refine zNp ?_); (refine zGo ?_); exact ⟨by (exact zLe), StLe.refl _⟩)); (focus ((refine zNp ?_); (refine zGo ?_); exact ⟨by (exact zLe), StLe.refl _⟩)); (refine zNp ?_); (refine zGo ?_))
    refine pw_cond rfl (fun h1 => ?_) (fun h1 => ?_)
    · rw [if_pos (by simp only [Bool.or_eq_true, bne_iff_ne, beq_iff_eq] at h1; omega)] at hw
      (refine zGo ?_)
      refine ret1 _ rfl ?_ rfl
      rw [← hw]; rfl
    · rw [if_neg (by simp only [Bool.or_eq_false_iff, bne_eq_false_iff_eq, beq_eq_false_iff_ne] at h1; omega)] at hw
      (refine zGo ?_)
      obtain ⟨a, b, c, e, rfl⟩ : ∃ a b c e, p = [a, b, c, e] := by
        match p, hp with
        | [a, b, c, e], _ => exact ⟨a, b, c, e, rfl⟩
      (refine zNp ?_)
      (refine pl_op rfl (op_of (v_indexA hT rfl rfl rfl rfl (by omega) (by omega)) ?_); (refine zNp ?_))
      (refine zGo ?_)
      (refine pl_op rfl (op_of (v_shl rfl rfl rfl (by omega) rfl) ?_); (refine zNp ?_))
      (refine pl_op rfl (op_of (v_indexA hT rfl rfl rfl rfl (by omega) (by omega)) ?_); (refine zNp ?_))
      (refine zGo ?_)
      (refine pl_op rfl (op_of (v_shl rfl rfl rfl (by omega) rfl) ?_); (refine zNp ?_))
      (refine pl_op rfl (op_of (v_bits rfl rfl rfl rfl rfl) ?_); (refine zNp ?_))
      (refine pl_op rfl (op_of (v_indexA hT rfl rfl rfl rfl (by omega) (by omega)) ?_); (refine zNp ?_))
      (refine zGo ?_)
      (refine pl_op rfl (op_of (v_shl rfl rfl rfl (by omega) rfl) ?_); (refine zNp ?_))
      (refine pl_op rfl (op_of (v_bits rfl rfl rfl rfl rfl) ?_); (refine zNp ?_))
      (refine pl_op rfl (op_of (v_indexA hT rfl rfl rfl rfl (by omega) (by omega)) ?_); (refine zNp ?_))
      (refine zGo ?_)
      (refine pl_op rfl (op_of (v_bits rfl rfl rfl rfl rfl) ?_); (refine zNp ?_))
      (refine zGo ?_)
      refine ret1 _ rfl ?_ rfl
      rw [← hw]; rfl
end Go.Proofs.YtdehdgbdcfkpbaaGreatDoor
