/-
  Contracts of functions, walked over pure values.
-/
import Derived.Test.YtdehdgbdcfkpbaaGreatDoorKE4
import Derived.Test.YtdehdgbdcfkpbaaGreatDoorKP4
namespace Go.Proofs.YtdehdgbdcfkpbaaGreatDoor
open Go Go.Pw
variable {Gl : Glob}
attribute [local irreducible] PW PWL OpP PCalls PWO
set_option maxHeartbeats 20000000

/-! ### the reference's ParseAddr and prefix.Parse -/
theorem pow_le4 {i : Nat} (h : i < 4) : (256 : Int) ^ (i + 1) ≤ 4294967296 := by
  match i, h with
  | 0, _ => decide
  | 1, _ => decide
  | 2, _ => decide
  | 3, _ => decide
theorem c135 (s : Str) (hl : Small s) : PFun Tryz.prog Gl 135 [.str s] fun r => r = .tup [.int .u32 (addr s).1, .bool (addr s).2] := by
  refine PFun.of hT Tryz.func135 rfl fun B hD => ?_
  refine pw_norm rfl ?_
  rw [addr_eq]
  have hl' := hl
  unfold Small at hl'
  (refine zGo ?_)
  (refine pl_op rfl (op_fun (c58 s 46 hl) rfl rfl e58 zLe rfl (fun r hr => ?_)); subst hr; refine ⟨rfl, ?_⟩; (refine zNp ?_))
  unfold raddr
  have hz := part_len' 46 s
  generalize parts 46 s = ps at hz
  (refine zGo ?_)
  refine pw_cond rfl (fun h => ?_) (fun h => ?_)
  · have h' : ¬ ps.length = 4 := by simp at h; omega
    rw [if_neg h']
    (refine zGo ?_)
    exact ret1 _ rfl rfl rfl
  have h' : ps.length = 4 := by simp at h; omega
  rw [if_pos h']
  clear h
  (refine zGo ?_)
  refine pw_for hD (fun a : Nat × Int => [(5, .int .u32 a.2), (6, .int .i64 a.1)]) (fun _ => []) (fun a => sum4 (ps.drop a.1) a.2 = sum4 ps 0 ∧ a.1 ≤ 4 ∧ 0 ≤ a.2 ∧ a.2 < 256 ^ a.1) (fun a => 4 - a.1) (0, 0) ⟨rfl, by decide, by decide, by decide⟩ 0 rfl (fun _ => rfl) (StLe.refl _) (fun _ => rfl) (fun _ => rfl) (by (exact zLe)) ?_
  rintro ⟨i, a⟩ ⟨hw, hi, ha0, ha⟩
  dsimp only at hw hi ha0 ha ⊢
  (refine zGo ?_)
  refine pw_cond rfl (fun h1 => ?_) (fun h1 => ?_)
  · simp only [decide_eq_true_eq] at h1
    have hlt : i < ps.length := by omega
    have hp : (ps.map PV.str)[i]? = some (.str ps[i]) := by simp [hlt]
    have hzi := hz _ (List.getElem_mem hlt)
    rw [List.drop_eq_getElem_cons hlt, sum4] at hw
    generalize ps[i] = x at hp hzi hw
    obtain ⟨v, hv, ev⟩ := vOct_nat x
    have h4 := pow_le4 (i := i) (by omega)
    have h5 : (256 : Int) ^ (i + 1) = 256 ^ i * 256 := Int.pow_succ ..
    rw [h5] at h4
    (refine zGo ?_)
    (refine pl_op rfl (op_of (v_index (p := .str x) hT rfl rfl rfl rfl (by omega) (hp) rfl) ?_); (refine zNp ?_))
    (refine zGo ?_)
    (refine pl_op rfl (op_fun (c136 x 255 (by unfold Small; omega) (by decide) (by decide)) rfl rfl e136 zLe rfl (fun r hr => ?_)); subst hr; refine ⟨rfl, ?_⟩; (refine zNp ?_))
    (refine zGo ?_)
    refine pw_cond rfl (fun h2 => ?_) (fun h2 => ?_)
    · have h2' : okOct x = false := by simpa [okOct] using h2
      rw [if_neg (by rw [h2']; exact Bool.false_ne_true)] at hw
      (refine zGo ?_)
      refine ret1 _ rfl ?_ rfl
      rw [← hw]; rfl
    · have h2' : okOct x = true := by simpa [okOct] using h2
      rw [if_pos h2', ev] at hw
      have ev' : (rread x 255).1 = (v : Int) := ev
      rw [ev']
      (refine zGo ?_)
      (refine pl_op rfl (op_of (v_arith rfl rfl rfl rfl (IntWalk.u32_in _ (by omega))) ?_); (refine zNp ?_))
      (refine zGo ?_)
      (refine pl_op rfl (op_of (v_conv (c := (v : Int)) hT rfl rfl rfl rfl (IntWalk.u32_in _ (by omega))) ?_); (refine zNp ?_))
      (refine pl_op rfl (op_of (v_arith rfl rfl rfl rfl (IntWalk.u32_in _ (by omega))) ?_); (refine zNp ?_))
      (refine zGo ?_)
      exact ⟨(i + 1, a * 256 + v), ⟨hw, by show i + 1 ≤ 4; omega, by show 0 ≤ a * 256 + (v : Int); omega, by show a * 256 + (v : Int) < 256 ^ (i + 1); omega⟩, by show _ - (i + 1) < _ - i; omega, by (exact zLe), StLe.refl _⟩
  · simp only [decide_eq_false_iff_not] at h1
    have hie : i = 4 := by omega
    rw [hie, List.drop_eq_nil_of_le (by omega), sum4] at hw
    (refine zGo ?_)
    refine ret1 _ rfl ?_ rfl
    rw [← hw]; rfl
theorem c120 (s : Str) (hl : Small s) : PFun Tryz.prog Gl 120 [.str s] fun r => r = .tup [ePfx (pfxParse s).1, .bool (pfxParse s).2] := by
  refine PFun.of hT Tryz.func120 rfl fun B hD => ?_
  refine pw_norm rfl ?_
  rw [pfx_eq]
  have hl' := hl
  unfold Small at hl'
  (refine zGo ?_)
  (refine pl_op rfl (op_fun (c58 s 47 hl) rfl rfl e58 zLe rfl (fun r hr => ?_)); subst hr; refine ⟨rfl, ?_⟩; (refine zNp ?_))
  unfold rpfx
  have hz := part_len' 47 s
  generalize parts 47 s = ps at hz
  (refine zGo ?_)
  refine pw_cond rfl (fun h => ?_) (fun h => ?_)
  · have h' : ¬ ps.length = 2 := by simp at h; omega
    rw [if_neg h']
    (refine zGo ?_)
    exact ret1 _ rfl rfl rfl
  have h' : ps.length = 2 := by simp at h; omega
  rw [if_pos h']
  clear h
  obtain ⟨x, y, rfl⟩ : ∃ x y, ps = [x, y] := by
    match ps, h' with
    | [x, y], _ => exact ⟨x, y, rfl⟩
  have hx := hz x (by simp)
  have hy := hz y (by simp)
  rw [show ([x, y] : List Str).getD 0 [] = x from rfl, show ([x, y] : List Str).getD 1 [] = y from rfl]
  refine pw_norm rfl ?_
  (refine zGo ?_)
  (refine pl_op rfl (op_of (v_index (p := .str x) hT rfl rfl rfl rfl (by omega) (rfl) rfl) ?_); (refine zNp ?_))
  (refine zGo ?_)
  (refine pl_op rfl (op_fun (c135 x (by unfold Small; omega)) rfl rfl e135 zLe rfl (fun r hr => ?_)); subst hr; refine ⟨rfl, ?_⟩; (refine zNp ?_))
  (refine zGo ?_)
  (refine pl_op rfl (op_of (v_index (p := .str y) hT rfl rfl rfl rfl (by omega) (rfl) rfl) ?_); (refine zNp ?_))
  (refine zGo ?_)
  (refine pl_op rfl (op_fun (c136 y 32 (by unfold Small; omega) (by decide) (by decide)) rfl rfl e136 zLe rfl (fun r hr => ?_)); subst hr; refine ⟨rfl, ?_⟩; (refine zNp ?_))
  generalize addr x = A
  generalize rread y 32 = R
  (refine zGo ?_)
  (refine pl_or 3 31 34 (!R.2) rfl rfl rfl (fun hb => ?_) (fun hb => ?_) ?_; (focus ((refine zNp ?_); (refine zGo ?_); exact ⟨by (exact zLe), StLe.refl _⟩)); (focus ((refine zNp ?_); (refine zGo ?_); exact ⟨by (exact zLe), StLe.refl _⟩)); (refine zNp ?_); (refine zGo ?_))
  (refine pl_or 6 35 41 (!rvalid ⟨A.1, R.1⟩) rfl rfl rfl (fun hb => ?_) (fun hb => ?_) ?_; (focus ((refine zNp ?_); (refine zGo ?_); exact ⟨by (exact zLe), StLe.refl _⟩)); (focus ((refine zNp ?_); (refine zGo ?_); (refine pl_on rfl rfl (op_fun (c53 ⟨A.1, R.1⟩) rfl rfl e53 zLe rfl (fun r hr => ?_)); subst hr; refine ⟨rfl, ?_⟩; (refine zNp ?_)); (refine zGo ?_); exact ⟨by (exact zLe), StLe.refl _⟩)); (refine zNp ?_); (refine zGo ?_))
  refine pw_cond rfl (fun h => ?_) (fun h => ?_)
  · rw [if_pos h]
    (refine zGo ?_)
    exact ret1 _ rfl rfl rfl
  rw [if_neg (by rw [show (!A.2 || !R.2 || !rvalid ⟨A.1, R.1⟩) = false from h]; exact Bool.false_ne_true)]
  (refine zGo ?_)
  exact ret1 _ rfl rfl rfl
/-! ### names -/
def let1 (c : UInt8) : Bool := decide ((c.toNat : Int) ≥ 97) && decide ((c.toNat : Int) ≤ 122)
def dig1 (c : UInt8) : Bool := decide ((c.toNat : Int) ≥ 48) && decide ((c.toNat : Int) ≤ 57)
def oth1 (c : UInt8) : Bool := (dig1 c || ((c.toNat : Int) == 45)) || ((c.toNat : Int) == 95)
theorem vbyte_eq (c : UInt8) : vbyte c = (let1 c || oth1 c) := by
  unfold vbyte oth1
  show (!(((!(let1 c) && !(dig1 c)) && ((c.toNat : Int) != 45)) && ((c.toNat : Int) != 95))) = _
  generalize let1 c = a
  generalize dig1 c = b
  rw [bne, bne]
  generalize ((c.toNat : Int) == 45) = d
  generalize ((c.toNat : Int) == 95) = e
  cases a <;> cases b <;> cases d <;> cases e <;> rfl
def nmHead (s : Str) : Bool := ((s == []) || decide ((s.length : Int) > 24)) || (s == [97, 110, 121])
theorem vname_eq (s : Str) : vname s = (!(nmHead s) && (let1 (s.headD 0) && s.all vbyte)) := by
  unfold vname vhead
  show (!((nmHead s || decide (((s.headD 0).toNat : Int) < 97)) || decide (((s.headD 0).toNat : Int) > 122)) && _) = _
  have : (!decide (((s.headD 0).toNat : Int) < 97) && !decide (((s.headD 0).toNat : Int) > 122)) = let1 (s.headD 0) := by
    unfold let1
    rw [Bool.eq_iff_iff]
    simp only [Bool.and_eq_true, Bool.not_eq_true', decide_eq_false_iff_not, decide_eq_true_eq]
    omega
  rw [← this]
  generalize nmHead s = a
  generalize decide (((s.headD 0).toNat : Int) < 97) = b
  generalize decide (((s.headD 0).toNat : Int) > 122) = c
  cases a <;> cases b <;> cases c <;> simp
theorem c92 (s : Str) : PFun Tryz.prog Gl 92 [.str s] fun r => r = .bool (vname s) := by
  refine PFun.of hT Tryz.func92 rfl fun B hD => ?_
  refine pw_norm rfl ?_
  rw [vname_eq]
  (refine zGo ?_)
  (refine pl_or 4 8 12 (decide ((s.length : Int) > 24)) rfl rfl rfl (fun hb => ?_) (fun hb => ?_) ?_; (focus ((refine zNp ?_); (refine zGo ?_); exact ⟨by (exact zLe), StLe.refl _⟩)); (focus ((refine zNp ?_); (refine zGo ?_); exact ⟨by (exact zLe), StLe.refl _⟩)); (refine zNp ?_); (refine zGo ?_))
  (refine pl_or 3 13 16 (s == [97, 110, 121]) rfl rfl rfl (fun hb => ?_) (fun hb => ?_) ?_; (focus ((refine zNp ?_); (refine zGo ?_); exact ⟨by (exact zLe), StLe.refl _⟩)); (focus ((refine zNp ?_); (refine zGo ?_); exact ⟨by (exact zLe), StLe.refl _⟩)); (refine zNp ?_); (refine zGo ?_))
  refine pw_cond rfl (fun h => ?_) (fun h => ?_)
  · have h' : nmHead s = true := h
    rw [h']
    (refine zGo ?_)
    exact ret1 _ rfl rfl rfl
  have h' : nmHead s = false := h
  have hh := h'
  simp only [nmHead, Bool.or_eq_false_iff, decide_eq_false_iff_not] at hh
  rw [h', Bool.not_false, Bool.true_and]
  (refine zGo ?_)
  refine pw_for hD (fun i : Nat => [(3, .int .i64 i)]) (fun _ => []) (fun i => i ≤ s.length ∧ (s.drop i).all vbyte = s.all vbyte ∧ (0 < i → let1 (s.headD 0) = true)) (fun i => s.length - i) 0 ⟨Nat.zero_le _, rfl, by intro h; omega⟩ 0 rfl (fun _ => rfl) (StLe.refl _) (fun _ => rfl) (fun _ => rfl) (by (exact zLe)) ?_
  rintro i ⟨hi, hw, hd⟩
  (refine zGo ?_)
  refine pw_cond rfl (fun h1 => ?_) (fun h1 => ?_)
  · simp only [decide_eq_true_eq] at h1
    have hlt : i < s.length := by omega
    have hg := get_getD hlt
    have h00 : i = 0 → s.getD i 0 = s.headD 0 := by rintro rfl; cases s <;> rfl
    rw [drop_getD hlt, List.all_cons] at hw
    generalize s.getD i 0 = c at hg hw h00
    (refine zGo ?_)
    (refine pl_op rfl (op_of (v_indexs (c := c) hT rfl rfl rfl rfl (by omega) (hg)) ?_); (refine zNp ?_))
    (refine zGo ?_)
    (refine pl_and 5 27 32 (decide ((c.toNat : Int) ≤ 122)) rfl rfl rfl (fun hb => ?_) (fun hb => ?_) ?_; (focus ((refine zNp ?_); (refine zGo ?_); (refine pl_on rfl rfl (op_of (v_indexs (c := c) hT rfl rfl rfl rfl (by omega) (hg)) ?_); (refine zNp ?_)); (refine zGo ?_); exact ⟨by (exact zLe), StLe.refl _⟩)); (focus ((refine zNp ?_); (refine zGo ?_); exact ⟨by (exact zLe), StLe.refl _⟩)); (refine zNp ?_); (refine zGo ?_))
    (refine pl_op rfl (op_of (v_indexs (c := c) hT rfl rfl rfl rfl (by omega) (hg)) ?_); (refine zNp ?_))
    (refine zGo ?_)
    (refine pl_and 5 37 42 (decide ((c.toNat : Int) ≤ 57)) rfl rfl rfl (fun hb => ?_) (fun hb => ?_) ?_; (focus ((refine zNp ?_); (refine zGo ?_); (refine pl_on rfl rfl (op_of (v_indexs (c := c) hT rfl rfl rfl rfl (by omega) (hg)) ?_); (refine zNp ?_)); (refine zGo ?_); exact ⟨by (exact zLe), StLe.refl _⟩)); (focus ((refine zNp ?_); (refine zGo ?_); exact ⟨by (exact zLe), StLe.refl _⟩)); (refine zNp ?_); (refine zGo ?_))
    (refine pl_or 5 43 48 ((c.toNat : Int) == 45) rfl rfl rfl (fun hb => ?_) (fun hb => ?_) ?_; (focus ((refine zNp ?_); (refine zGo ?_); exact ⟨by (exact zLe), StLe.refl _⟩)); (focus ((refine zNp ?_); (refine zGo ?_); (refine pl_on rfl rfl (op_of (v_indexs (c := c) hT rfl rfl rfl rfl (by omega) (hg)) ?_); (refine zNp ?_)); (refine zGo ?_); exact ⟨by (exact zLe), StLe.refl _⟩)); (refine zNp ?_); (refine zGo ?_))
    (refine pl_or 5 49 54 ((c.toNat : Int) == 95) rfl rfl rfl (fun hb => ?_) (fun hb => ?_) ?_; (focus ((refine zNp ?_); (refine zGo ?_); exact ⟨by (exact zLe), StLe.refl _⟩)); (focus ((refine zNp ?_); (refine zGo ?_); (refine pl_on rfl rfl (op_of (v_indexs (c := c) hT rfl rfl rfl rfl (by omega) (hg)) ?_); (refine zNp ?_)); (refine zGo ?_); exact ⟨by (exact zLe), StLe.refl _⟩)); (refine zNp ?_); (refine zGo ?_))
    refine pl_and 7 57 64 (!oth1 c || ((i : Int) == 0)) rfl rfl rfl (fun hb => ?_) (fun hb => ?_) ?_
    · refine pl_norm rfl ?_
      (refine zGo ?_)
      (refine pl_or 3 60 63 ((i : Int) == 0) rfl rfl rfl (fun hb => ?_) (fun hb => ?_) ?_; (focus ((refine zNp ?_); (refine zGo ?_); exact ⟨by (exact zLe), StLe.refl _⟩)); (focus ((refine zNp ?_); (refine zGo ?_); exact ⟨by (exact zLe), StLe.refl _⟩)); (refine zNp ?_); (refine zGo ?_))
      exact ⟨by (exact zLe), StLe.refl _⟩
    · refine pl_norm rfl ?_
      (refine zGo ?_)
      exact ⟨by (exact zLe), StLe.refl _⟩
    refine pl_norm rfl ?_
    (refine zGo ?_)
    refine pw_cond rfl (fun h2 => ?_) (fun h2 => ?_)
    · have h2' : (!let1 c && (!oth1 c || ((i : Int) == 0))) = true := h2
      (refine zGo ?_)
      refine ret1 _ rfl ?_ rfl
      refine congrArg PV.bool ?_
      simp only [Bool.and_eq_true, Bool.not_eq_true', Bool.or_eq_true] at h2'
      rcases h2'.2 with h3 | h3
      · rw [← hw, vbyte_eq, h2'.1, h3]; simp
      · have hi0 : i = 0 := by simpa using h3
        rw [← h00 hi0, h2'.1]; rfl
    · have h2' : (!let1 c && (!oth1 c || ((i : Int) == 0))) = false := h2
      (refine zGo ?_)
      refine ⟨i + 1, ⟨hlt, ?_, fun _ => ?_⟩, by omega, by (exact zLe), StLe.refl _⟩
      · rw [← hw, vbyte_eq]
        cases h3 : let1 c with
        | true => rfl
        | false =>
          rw [h3] at h2'
          simp only [Bool.not_false, Bool.true_and, Bool.or_eq_false_iff, Bool.not_eq_false'] at h2'
          rw [h2'.1]; rfl
      · by_cases hi0 : i = 0
        · rw [← h00 hi0]
          cases h3 : let1 c with
          | true => rfl
          | false => rw [h3, hi0] at h2'; simp at h2'
        · exact hd (by omega)
  · simp only [decide_eq_false_iff_not] at h1
    have hie : i = s.length := by omega
    have hpos : 0 < s.length := by
      cases s with
      | nil => exact absurd hh.1.1 (by decide)
      | cons _ _ => simp
    rw [hie, List.drop_length, List.all_nil] at hw
    (refine zGo ?_)
    refine ret1 _ rfl ?_ rfl
    rw [← hw, hd (by omega)]; rfl
/-! ### prefixes that meet -/
theorem c122 (p q : TPfx) : PFun Tryz.prog Gl 122 [ePfx p, ePfx q] fun r => r = .bool (rcov p q) := by
  refine PFun.of hT Tryz.func122 rfl fun B hD => ?_
  refine pw_norm rfl ?_
  (refine zGo ?_)
  (refine pl_op rfl (op_fun (c54 q) rfl rfl e54 zLe rfl (fun r hr => ?_)); subst hr; refine ⟨rfl, ?_⟩; (refine zNp ?_))
  (refine zGo ?_)
  (refine pl_and 5 13 18 (rcont p (rof q).1) rfl rfl rfl (fun hb => ?_) (fun hb => ?_) ?_; (focus ((refine zNp ?_); (refine zGo ?_); (refine pl_on rfl rfl (op_fun (c23 p (rof q).1) rfl rfl e23 zLe rfl (fun r hr => ?_)); subst hr; refine ⟨rfl, ?_⟩; (refine zNp ?_)); (refine zGo ?_); exact ⟨by (exact zLe), StLe.refl _⟩)); (focus ((refine zNp ?_); (refine zGo ?_); exact ⟨by (exact zLe), StLe.refl _⟩)); (refine zNp ?_); (refine zGo ?_))
  (refine pl_and 5 19 24 (rcont p (rof q).2) rfl rfl rfl (fun hb => ?_) (fun hb => ?_) ?_; (focus ((refine zNp ?_); (refine zGo ?_); (refine pl_on rfl rfl (op_fun (c23 p (rof q).2) rfl rfl e23 zLe rfl (fun r hr => ?_)); subst hr; refine ⟨rfl, ?_⟩; (refine zNp ?_)); (refine zGo ?_); exact ⟨by (exact zLe), StLe.refl _⟩)); (focus ((refine zNp ?_); (refine zGo ?_); exact ⟨by (exact zLe), StLe.refl _⟩)); (refine zNp ?_); (refine zGo ?_))
  refine ret1 _ rfl ?_ rfl
  rfl
theorem c93 (p q : TPfx) : PFun Tryz.prog Gl 93 [ePfx p, ePfx q] fun r => r = .bool (rmeet p q) := by
  refine PFun.of hT Tryz.func93 rfl fun B hD => ?_
  refine pw_norm rfl ?_
  (refine zGo ?_)
  (refine pl_op rfl (op_fun (c122 p q) rfl rfl e122 zLe rfl (fun r hr => ?_)); subst hr; refine ⟨rfl, ?_⟩; (refine zNp ?_))
  (refine zGo ?_)
  (refine pl_or 4 8 12 (rcov q p) rfl rfl rfl (fun hb => ?_) (fun hb => ?_) ?_; (focus ((refine zNp ?_); (refine zGo ?_); exact ⟨by (exact zLe), StLe.refl _⟩)); (focus ((refine zNp ?_); (refine zGo ?_); (refine pl_on rfl rfl (op_fun (c122 q p) rfl rfl e122 zLe rfl (fun r hr => ?_)); subst hr; refine ⟨rfl, ?_⟩; (refine zNp ?_)); (refine zGo ?_); exact ⟨by (exact zLe), StLe.refl _⟩)); (refine zNp ?_); (refine zGo ?_))
  refine ret1 _ rfl ?_ rfl
  rfl
theorem c52 (p : TPfx) (l : List TPfx) (hl : Small l) : PFun Tryz.prog Gl 52 [ePfx p, .sl (l.map ePfx)] fun r => r = .bool (l.any (rmeet p)) := by
  refine PFun.of hT Tryz.func52 rfl fun B hD => ?_
  refine pw_norm rfl ?_
  unfold Small at hl
  (refine zGo ?_)
  refine pw_for hD (fun i : Nat => [(5, .int .i64 i)]) (fun _ => [.box (ePfx p).cells]) (fun i => i ≤ l.length ∧ (l.drop i).any (rmeet p) = l.any (rmeet p)) (fun i => l.length - i) 0 ⟨Nat.zero_le _, rfl⟩ 1 rfl (fun _ => rfl) (StLe.refl _) (fun _ => rfl) (fun _ => rfl) (by (exact zLe)) ?_
  rintro i ⟨hi, hw⟩
  (refine zGo ?_)
  refine pw_cond rfl (fun h1 => ?_) (fun h1 => ?_)
  · simp only [decide_eq_true_eq, List.length_map] at h1
    have hlt : i < l.length := by omega
    rw [List.drop_eq_getElem_cons hlt, List.any_cons] at hw
    (refine zGo ?_)
    refine pw_draw [(0, true), (1, true), (2, true), (3, true), (4, true), (5, false)] hmix (by decide +kernel) ?_
    (refine zDgo ?_)
    (refine po_val rfl rfl (v_index (p := ePfx l[i]) hT rfl rfl rfl rfl (by omega) (by simp [hlt]) rfl) ?_; refine zDn ?_)
    (refine zDgo ?_)
    (refine po_step rfl rfl (op_fun (c93 p l[i]) rfl rfl e93 zLe rfl (fun r hr => ?_)); subst hr; refine ⟨rfl, zLok, ?_⟩; refine zDn ?_)
    (refine zDgo ?_)
    (refine zGo ?_)
    refine pw_cond rfl (fun h2 => ?_) (fun h2 => ?_)
    · rw [h2, Bool.true_or] at hw
      (refine zGo ?_)
      refine ret1 _ rfl ?_ rfl
      rw [← hw]
    · rw [h2, Bool.false_or] at hw
      (refine zGo ?_)
      exact ⟨i + 1, ⟨hlt, hw⟩, by omega, by (exact zLe), by (exact zLes)⟩
  · simp only [decide_eq_false_iff_not, List.length_map] at h1
    have hie : i = l.length := by omega
    rw [hie, List.drop_length, List.any_nil] at hw
    (refine zGo ?_)
    refine ret1 _ rfl ?_ rfl
    rw [← hw]
theorem c51 (t : Topo) (hl : Small t.edges) : PFun Tryz.prog Gl 51 [eTopo t] fun r => r = .sl ((fixed t.edges).map ePfx) := by
  refine PFun.of hT Tryz.func51 rfl fun B hD => ?_
  refine pw_norm rfl ?_
  unfold Small at hl
  (refine zGo ?_)
  refine pw_ghost 2 ?_
  refine pw_norm rfl ?_
  refine pw_for hD (fun a : Nat × List TPfx × Nat => [(3, .msl 2 1 0 (a.2.1.map ePfx).length a.2.2), (4, .int .i64 a.1)]) (fun a => [.box (eTopo t).cells, .arr 2 (a.2.1.map ePfx) a.2.2])
    (fun a => a.1 ≤ t.edges.length ∧ a.2.1.length ≤ a.1 ∧ a.2.1 ++ fixed (t.edges.drop a.1) = fixed t.edges) (fun a => t.edges.length - a.1) (0, [], 0) ⟨Nat.zero_le _, Nat.zero_le _, rfl⟩ 2 rfl (fun _ => rfl) (by (exact zLes)) (fun _ => rfl) (fun _ => rfl) (by (exact zLe)) ?_
  rintro ⟨i, out, cap⟩ ⟨hi, ho, hw⟩
  dsimp only at hi ho hw ⊢
  (refine zGo ?_)
  refine pw_cond rfl (fun h1 => ?_) (fun h1 => ?_)
  · simp only [decide_eq_true_eq, List.length_map] at h1
    have hlt : i < t.edges.length := by omega
    have hdr : fixed (t.edges.drop i) = (if !(t.edges[i].planned) then t.edges[i].pfx :: fixed (t.edges.drop (i + 1)) else fixed (t.edges.drop (i + 1))) := by
      rw [List.drop_eq_getElem_cons hlt]
      unfold fixed
      rw [List.filter_cons]
      split <;> rfl
    have hp : (t.edges.map eEdge)[i]? = some (eEdge t.edges[i]) := by simp [hlt]
    rw [hdr] at hw
    generalize t.edges[i] = x at hp hw
    (refine zGo ?_)
    (refine pl_op rfl (op_of (v_index (p := eEdge x) hT rfl rfl rfl rfl (by omega) (hp) rfl) ?_); (refine zNp ?_))
    (refine zGo ?_)
    refine pw_cond rfl (fun h2 => ?_) (fun h2 => ?_)
    · rw [if_pos h2] at hw
      (refine zGo ?_)
      (refine pl_op rfl (op_of (v_index (p := eEdge x) hT rfl rfl rfl rfl (by omega) (hp) rfl) ?_); (refine zNp ?_))
      (refine zGo ?_)
      (refine pl_append (b := 16) hT hD rfl rfl rfl rfl rfl rfl rfl rfl (.inl (Nat.zero_lt_succ _)) rfl rfl (by simp; omega) (fun cap' _ hcap => ?_); (refine zNp ?_))
      (refine zGo ?_)
      refine ⟨(i + 1, out ++ [x.pfx], cap'), ⟨hlt, by show (out ++ [_]).length ≤ i + 1; simp; omega, by rw [← hw]; simp⟩, by show _ - (i + 1) < _ - i; omega, ?_, ?_⟩
      · simp only [List.map_append, List.length_append]
        (exact zLe)
      · simp only [List.map_append]
        (exact zLes)
    · rw [if_neg (by rw [h2]; exact Bool.false_ne_true)] at hw
      (refine zGo ?_)
      exact ⟨(i + 1, out, cap), ⟨hlt, by show out.length ≤ i + 1; omega, hw⟩, by show _ - (i + 1) < _ - i; omega, by (exact zLe), by (exact zLes)⟩
  · simp only [decide_eq_false_iff_not, List.length_map] at h1
    have hie : i = t.edges.length := by omega
    have hw' : out = fixed t.edges := by rw [← hw, hie, List.drop_length]; simp [fixed]
    subst hw'
    (refine zGo ?_)
    exact ret0 _ _ rfl rfl (.inr (.inr (.inr (.inl ⟨_, _, _, _, _, _, rfl, rfl, rfl, rfl, rfl⟩)))) rfl
end Go.Proofs.YtdehdgbdcfkpbaaGreatDoor
