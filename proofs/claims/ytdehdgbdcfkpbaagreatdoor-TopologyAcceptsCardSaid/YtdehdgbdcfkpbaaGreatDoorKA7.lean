/-
  Plain laws of prefixes: both ways of saying that an address lies in one agree.
-/
import Derived.Test.YtdehdgbdcfkpbaaGreatDoorKA5
import Derived.Test.YtdehdgbdcfkpbaaGreatDoorKC1
namespace Go.Proofs.YtdehdgbdcfkpbaaGreatDoor
open Go Go.Pw
variable {Gl : Glob}
attribute [local irreducible] PW PWL OpP PCalls PWO

/-! ### the reference's lookups -/
theorem c50 (t : Topo) (name : Str) (hl : Small t.edges) : PFun Tryz.prog Gl 50 [eTopo t, .str name] fun r => r = .int .i64 (tEdge t name) := by
  refine PFun.of hT Tryz.func50 rfl fun B hD => ?_
  refine pw_norm rfl ?_
  (refine zGo ?_)
  refine pw_for hD (fun i : Nat => [(5, .int .i64 i)]) (fun _ => [.box (eTopo t).cells]) (fun i => i ≤ t.edges.length ∧ ∀ (j : Nat) d, j < i → t.edges[j]? = some d → (d.name == name) = false) (fun i => t.edges.length - i) 0 ⟨by omega, by intro j d h; omega⟩ 1 rfl (fun _ => rfl) (StLe.refl _) (fun _ => rfl) (fun _ => rfl) (by (exact zLe)) ?_
  rintro i ⟨hi, hno⟩
  unfold Small at hl
  (refine zGo ?_)
  refine pw_cond rfl (fun h => ?_) (fun h => ?_)
  · simp only [decide_eq_true_eq, List.length_map] at h
    have hlt : i < t.edges.length := by omega
    (refine zGo ?_)
    (refine pl_op rfl (op_of (v_index (p := eEdge t.edges[i]) hT rfl rfl rfl rfl (by omega) (by simp [hlt]) rfl) ?_); (refine zNp ?_))
    (refine zGo ?_)
    refine pw_cond rfl (fun h2 => ?_) (fun h2 => ?_)
    · (refine zGo ?_)
      refine ret1 _ rfl ?_ rfl
      rw [tEdge, firstAt_hit hlt h2 hno]
    · (refine zGo ?_)
      refine ⟨i + 1, ⟨by omega, fun j d hj hd => ?_⟩, by omega, by (exact zLe), StLe.refl _⟩
      rcases Nat.lt_succ_iff_lt_or_eq.1 hj with hj | rfl
      · exact hno j d hj hd
      · rw [List.getElem?_eq_getElem hlt] at hd; cases hd; exact h2
  · simp only [decide_eq_false_iff_not, List.length_map] at h
    (refine zGo ?_)
    refine ret1 _ rfl ?_ rfl
    rw [tEdge, firstAt_miss fun j x hj => hno j x (by have := (List.getElem?_eq_some_iff.1 hj).1; omega) hj]
def rAt (t : Topo) (a : Int) : Int := firstAt (fun d => !d.planned && rcont d.pfx a) t.edges
theorem c67 (t : Topo) (a : Int) (hl : Small t.edges) : PFun Tryz.prog Gl 67 [eTopo t, .int .u32 a] fun r => r = .int .i64 (rAt t a) := by
  refine PFun.of hT Tryz.func67 rfl fun B hD => ?_
  refine pw_norm rfl ?_
  (refine zGo ?_)
  refine pw_for hD (fun i : Nat => [(5, .int .i64 i)]) (fun _ => [.box (eTopo t).cells]) (fun i => i ≤ t.edges.length ∧ ∀ (j : Nat) d, j < i → t.edges[j]? = some d → (!d.planned && rcont d.pfx a) = false) (fun i => t.edges.length - i) 0 ⟨by omega, by intro j d h; omega⟩ 1 rfl (fun _ => rfl) (StLe.refl _) (fun _ => rfl) (fun _ => rfl) (by (exact zLe)) ?_
  rintro i ⟨hi, hno⟩
  unfold Small at hl
  (refine zGo ?_)
  refine pw_cond rfl (fun h => ?_) (fun h => ?_)
  · simp only [decide_eq_true_eq, List.length_map] at h
    have hlt : i < t.edges.length := by omega
    (refine zGo ?_)
    (refine pl_op rfl (op_of (v_index (p := eEdge t.edges[i]) hT rfl rfl rfl rfl (by omega) (by simp [hlt]) rfl) ?_); (refine zNp ?_))
    (refine zGo ?_)
    refine pl_and 9 20 29 (rcont t.edges[i].pfx a) rfl rfl rfl (fun h2 => ?_) (fun h2 => ?_) ?_
    · refine pl_norm rfl ?_
      (refine zGo ?_)
      (refine pl_on rfl rfl (op_of (v_index (p := eEdge t.edges[i]) hT rfl rfl rfl rfl (by omega) (by simp [hlt]) rfl) ?_); refine pl_norm rfl ?_)
      (refine zGo ?_)
      (refine pl_on rfl rfl (op_fun (c23 t.edges[i].pfx a) rfl rfl e23 zLe rfl (fun r hr => ?_)); subst hr; refine ⟨rfl, ?_⟩; (refine zNp ?_))
      (refine zGo ?_)
      exact ⟨by (exact zLe), StLe.refl _⟩
    · refine pl_norm rfl ?_
      (refine zGo ?_)
      exact ⟨by (exact zLe), StLe.refl _⟩
    refine pl_norm rfl ?_
    (refine zGo ?_)
    refine pw_cond rfl (fun h2 => ?_) (fun h2 => ?_)
    · (refine zGo ?_)
      refine ret1 _ rfl ?_ rfl
      rw [rAt, firstAt_hit hlt h2 hno]
    · (refine zGo ?_)
      refine ⟨i + 1, ⟨by omega, fun j d hj hd => ?_⟩, by omega, by (exact zLe), StLe.refl _⟩
      rcases Nat.lt_succ_iff_lt_or_eq.1 hj with hj | rfl
      · exact hno j d hj hd
      · rw [List.getElem?_eq_getElem hlt] at hd; cases hd; exact h2
  · simp only [decide_eq_false_iff_not, List.length_map] at h
    (refine zGo ?_)
    refine ret1 _ rfl ?_ rfl
    rw [rAt, firstAt_miss fun j x hj => hno j x (by have := (List.getElem?_eq_some_iff.1 hj).1; omega) hj]
theorem c70 (t : Topo) (v : Int) (hl : Small t.edges) : PFun Tryz.prog Gl 70 [eTopo t, .int .i64 v] fun r => r = .sl ((tEdges t v).map eInt) := by
  refine PFun.of hT Tryz.func70 rfl fun B hD => ?_
  refine pw_norm rfl ?_
  (refine zGo ?_)
  refine pw_ghost 1 ?_
  refine pw_norm rfl ?_
  let p : TEdge → Bool := fun e => e.dev == v
  refine pw_for hD (fun a : Nat × Nat => [(5, .msl 1 1 0 ((selTo p t.edges a.1).map eInt).length a.2), (6, .int .i64 a.1)]) (fun a => [.box (eTopo t).cells, .arr 1 ((selTo p t.edges a.1).map eInt) a.2]) (fun a => a.1 ≤ t.edges.length) (fun a => t.edges.length - a.1) (0, 0) (by simp) 2 rfl (fun _ => rfl) (StLe.refl _) (fun _ => rfl)
    (fun _ => rfl) (by (exact zLe)) ?_
  rintro ⟨i, cap⟩ hi
  unfold Small at hl
  (refine zGo ?_)
  refine pw_cond rfl (fun h => ?_) (fun h => ?_)
  · simp only [decide_eq_true_eq, List.length_map] at h
    have hlt : i < t.edges.length := by omega
    (refine zGo ?_)
    (refine pl_op rfl (op_of (v_index (p := eEdge t.edges[i]) hT rfl rfl rfl rfl (by omega) (by simp [hlt]) rfl) ?_); (refine zNp ?_))
    (refine zGo ?_)
    refine pw_cond rfl (fun h2 => ?_) (fun h2 => ?_)
    · (refine zGo ?_)
      have hn := selTo_len p t.edges i
      (refine pl_append (b := 8) hT hD rfl rfl rfl rfl rfl rfl rfl rfl (.inl (Nat.zero_lt_succ _)) rfl rfl (by simp; omega) (fun cap' _ hcap => ?_); (refine zNp ?_))
      (refine zGo ?_)
      have hs := selTo_yes (p := p) (l := t.edges) (List.getElem?_eq_getElem hlt) h2
      refine ⟨(i + 1, cap'), by show i + 1 ≤ _; omega, by show _ - (i + 1) < _ - i; omega, ?_, ?_⟩
      · simp only [hs, List.map_append, List.length_append]
        (exact zLe)
      · simp only [hs, List.map_append]
        (exact zLes)
    · (refine zGo ?_)
      have hs := selTo_no (p := p) (l := t.edges) (List.getElem?_eq_getElem hlt) h2
      refine ⟨(i + 1, cap), by show i + 1 ≤ _; omega, by show _ - (i + 1) < _ - i; omega, ?_, ?_⟩
      · simp only [hs]
        (exact zLe)
      · simp only [hs]
        (exact zLes)
  · simp only [decide_eq_false_iff_not, List.length_map] at h
    have hge : i = t.edges.length := by omega
    subst hge
    (refine zGo ?_)
    exact ret0 _ _ rfl rfl (.inr (.inr (.inr (.inl ⟨_, _, _, _, _, _, rfl, rfl, rfl, rfl, rfl⟩)))) rfl
theorem c72 (t : Topo) (v : Str) (hl : Small t.edges) : PFun Tryz.prog Gl 72 [eTopo t, .str v] fun r => r = .sl ((tZone t v).map eInt) := by
  refine PFun.of hT Tryz.func72 rfl fun B hD => ?_
  refine pw_norm rfl ?_
  (refine zGo ?_)
  refine pw_ghost 1 ?_
  refine pw_norm rfl ?_
  let p : TEdge → Bool := fun e => e.zone == v
  refine pw_for hD (fun a : Nat × Nat => [(5, .msl 1 1 0 ((selTo p t.edges a.1).map eInt).length a.2), (6, .int .i64 a.1)]) (fun a => [.box (eTopo t).cells, .arr 1 ((selTo p t.edges a.1).map eInt) a.2]) (fun a => a.1 ≤ t.edges.length) (fun a => t.edges.length - a.1) (0, 0) (by simp) 2 rfl (fun _ => rfl) (StLe.refl _) (fun _ => rfl)
    (fun _ => rfl) (by (exact zLe)) ?_
  rintro ⟨i, cap⟩ hi
  unfold Small at hl
  (refine zGo ?_)
  refine pw_cond rfl (fun h => ?_) (fun h => ?_)
  · simp only [decide_eq_true_eq, List.length_map] at h
    have hlt : i < t.edges.length := by omega
    (refine zGo ?_)
    (refine pl_op rfl (op_of (v_index (p := eEdge t.edges[i]) hT rfl rfl rfl rfl (by omega) (by simp [hlt]) rfl) ?_); (refine zNp ?_))
    (refine zGo ?_)
    refine pw_cond rfl (fun h2 => ?_) (fun h2 => ?_)
    · (refine zGo ?_)
      have hn := selTo_len p t.edges i
      (refine pl_append (b := 8) hT hD rfl rfl rfl rfl rfl rfl rfl rfl (.inl (Nat.zero_lt_succ _)) rfl rfl (by simp; omega) (fun cap' _ hcap => ?_); (refine zNp ?_))
      (refine zGo ?_)
      have hs := selTo_yes (p := p) (l := t.edges) (List.getElem?_eq_getElem hlt) h2
      refine ⟨(i + 1, cap'), by show i + 1 ≤ _; omega, by show _ - (i + 1) < _ - i; omega, ?_, ?_⟩
      · simp only [hs, List.map_append, List.length_append]
        (exact zLe)
      · simp only [hs, List.map_append]
        (exact zLes)
    · (refine zGo ?_)
      have hs := selTo_no (p := p) (l := t.edges) (List.getElem?_eq_getElem hlt) h2
      refine ⟨(i + 1, cap), by show i + 1 ≤ _; omega, by show _ - (i + 1) < _ - i; omega, ?_, ?_⟩
      · simp only [hs]
        (exact zLe)
      · simp only [hs]
        (exact zLes)
  · simp only [decide_eq_false_iff_not, List.length_map] at h
    have hge : i = t.edges.length := by omega
    subst hge
    (refine zGo ?_)
    exact ret0 _ _ rfl rfl (.inr (.inr (.inr (.inl ⟨_, _, _, _, _, _, rfl, rfl, rfl, rfl, rfl⟩)))) rfl
theorem c107 (a b : List Int) (hl : Small a) : PFun Tryz.prog Gl 107 [.sl (a.map eInt), .sl (b.map eInt)] fun r => r = .bool (decide (a = b)) := by
  refine PFun.of hT Tryz.func107 rfl fun B hD => ?_
  refine pw_norm rfl ?_
  unfold Small at hl
  (refine zGo ?_)
  refine pw_cond rfl (fun h => ?_) (fun h => ?_)
  · (refine zGo ?_)
    refine ret1 _ rfl ?_ rfl
    have : ¬ a = b := by rintro rfl; simp at h
    simp [this]
  · (refine zGo ?_)
    have hab : a.length = b.length := by have h' := h; simp [List.length_map] at h'; omega
    refine pw_for hD (fun i : Nat => [(5, .int .i64 i)]) (fun _ => []) (fun i => i ≤ a.length ∧ ∀ j : Nat, j < i → a[j]? = b[j]?) (fun i => a.length - i) 0 ⟨by omega, by intro j h; omega⟩ 0 rfl (fun _ => rfl) (StLe.refl _) (fun _ => rfl) (fun _ => rfl) (by (exact zLe)) ?_
    rintro i ⟨hi, hno⟩
    (refine zGo ?_)
    refine pw_cond rfl (fun h => ?_) (fun h => ?_)
    · rename_i h1
      simp only [decide_eq_true_eq, List.length_map] at h
      have hlt : i < a.length := by omega
      (refine zGo ?_)
      refine pw_draw [(0, true), (1, true), (2, true), (3, true), (4, true), (5, true), (6, true), (7, true), (8, true)] hmix (by decide +kernel) ?_
      (refine zDgo ?_)
      (refine po_val rfl rfl (v_index (p := eInt a[i]) hT rfl rfl rfl rfl (by omega) (by simp [hlt]) rfl) ?_; refine zDn ?_)
      (refine zDgo ?_)
      (refine po_val rfl rfl (v_index (p := eInt (b[i]'(by omega))) hT rfl rfl rfl rfl (by omega) (by simp [hab ▸ hlt]) rfl) ?_; refine zDn ?_)
      (refine zDgo ?_)
      (refine zGo ?_)
      refine pw_cond rfl (fun h2 => ?_) (fun h2 => ?_)
      · (refine zGo ?_)
        refine ret1 _ rfl ?_ rfl
        have : ¬ a = b := by rintro rfl; simp at h2
        simp [this]
      · (refine zGo ?_)
        refine ⟨i + 1, ⟨by omega, fun j hj => ?_⟩, by omega, by (exact zLe), StLe.refl _⟩
        rcases Nat.lt_succ_iff_lt_or_eq.1 hj with hj | rfl
        · exact hno j hj
        · rw [List.getElem?_eq_getElem hlt, List.getElem?_eq_getElem (by omega)]; simpa using h2
    · simp only [decide_eq_false_iff_not, List.length_map] at h
      (refine zGo ?_)
      refine ret1 _ rfl ?_ rfl
      have : a = b := by
        apply List.ext_getElem?
        intro j
        by_cases hj : j < i
        · exact hno j hj
        · rw [List.getElem?_eq_none (by omega), List.getElem?_eq_none (by omega)]
      simp [this]
theorem c68 (a b : List Int) (hl : Small a) : PFun Tryz.prog Gl 68 [.sl (a.map eInt), .sl (b.map eInt)] fun r => r = .bool (decide (a = b)) := by
  refine PFun.of hT Tryz.func68 rfl fun B hD => ?_
  refine pw_norm rfl ?_
  (refine zGo ?_)
  (refine pl_op rfl (op_fun (c107 a b hl) rfl rfl e107 zLe rfl (fun r hr => ?_)); subst hr; refine ⟨rfl, ?_⟩; (refine zNp ?_))
  (refine zGo ?_)
  refine ret1 _ rfl rfl rfl
end Go.Proofs.YtdehdgbdcfkpbaaGreatDoor
namespace Go.Proofs.YtdehdgbdcfkpbaaGreatDoor
open Go Go.Pw

theorem mask_nat (k : Nat) (hk : k ≤ 32) : mask (32 - k : Int) = ((2 ^ 32 - 2 ^ k : Nat) : Int) := by
  unfold mask
  rw [show (min ((32 : Int) - (32 - (k : Int))).toNat 32) = k by omega, IntKind.wrap_u32]
  have h1 : (2 : Nat) ^ k ≤ 2 ^ 32 := Nat.pow_le_pow_right (by omega) hk
  have h4 : 0 < 2 ^ k := Nat.two_pow_pos k
  have h5 : (2 : Int) ^ k = ((2 ^ k : Nat) : Int) := (Int.natCast_pow 2 k).symm
  rw [h5]
  generalize (2 : Nat) ^ k = q at h1 h4
  omega
theorem ofInt_nat (n : Nat) : (BitVec.ofInt 32 (n : Int)).toNat = n % 2 ^ 32 := by
  rw [BitVec.ofInt_natCast, BitVec.toNat_ofNat]
theorem and_mask (a k : Nat) (ha : a < 2 ^ 32) (hk : k ≤ 32) : a &&& (2 ^ 32 - 2 ^ k) = a / 2 ^ k * 2 ^ k := by
  have h1 : 2 ^ 32 - 2 ^ k = (2 ^ (32 - k) - 1) <<< k := by
    rw [Nat.shiftLeft_eq, Nat.sub_mul, Nat.one_mul, ← Nat.pow_add, show 32 - k + k = 32 by omega]
  have h2 : a / 2 ^ k * 2 ^ k = (a >>> k) <<< k := by rw [Nat.shiftLeft_eq, Nat.shiftRight_eq_div_pow]
  rw [h1, h2]
  apply Nat.eq_of_testBit_eq
  intro i
  rw [Nat.testBit_and, Nat.testBit_shiftLeft, Nat.testBit_shiftLeft, Nat.testBit_two_pow_sub_one, Nat.testBit_shiftRight]
  by_cases hik : k ≤ i
  · simp only [ge_iff_le, hik, decide_true, Bool.true_and, show k + (i - k) = i by omega]
    by_cases h32 : i < 32
    · simp [show i - k < 32 - k by omega]
    · have : a.testBit i = false := Nat.testBit_lt_two_pow (Nat.lt_of_lt_of_le ha (Nat.pow_le_pow_right (by omega) (by omega)))
      simp [this]
  · simp [hik]
theorem andB_mask (a k : Nat) (ha : a < 2 ^ 32) (hk : k ≤ 32) : andB (a : Int) (mask (32 - k : Int)) = ((a / 2 ^ k * 2 ^ k : Nat) : Int) := by
  unfold andB
  have h1 : (2 : Nat) ^ 32 - 2 ^ k < 2 ^ 32 := by have : 0 < 2 ^ k := Nat.two_pow_pos k; omega
  rw [mask_nat k hk, BitVec.toNat_and, ofInt_nat, ofInt_nat, Nat.mod_eq_of_lt ha, Nat.mod_eq_of_lt h1, and_mask a k ha hk]
  refine IntWalk.u32_in _ ⟨by omega, ?_⟩
  have : a / 2 ^ k * 2 ^ k ≤ a := Nat.div_mul_le_self a _
  omega
theorem andN_mask (a k : Nat) (ha : a < 2 ^ 32) (hk : k ≤ 32) : andN (a : Int) (mask (32 - k : Int)) = ((a % 2 ^ k : Nat) : Int) := by
  unfold andN
  have h0 : 0 < 2 ^ k := Nat.two_pow_pos k
  have h2 : (2 : Nat) ^ k ≤ 2 ^ 32 := Nat.pow_le_pow_right (by omega) hk
  have h1 : (2 : Nat) ^ 32 - 2 ^ k < 2 ^ 32 := by omega
  rw [mask_nat k hk, BitVec.toNat_and, BitVec.toNat_not, ofInt_nat, ofInt_nat, Nat.mod_eq_of_lt ha, Nat.mod_eq_of_lt h1, show 2 ^ 32 - 1 - (2 ^ 32 - 2 ^ k) = 2 ^ k - 1 by omega, Nat.and_two_pow_sub_one_eq_mod]
  refine IntWalk.u32_in _ ⟨by omega, ?_⟩
  have : a % 2 ^ k ≤ a := Nat.mod_le _ _
  omega
theorem rsize_nat (k : Nat) (hk : k ≤ 32) : rsize (32 - k : Int) = ((2 ^ k : Nat) : Int) := by
  unfold rsize
  have h2 : (2 : Nat) ^ k ≤ 2 ^ 32 := Nat.pow_le_pow_right (by omega) hk
  rw [show (min ((32 : Int) - (32 - (k : Int))).toNat 64) = k by omega, Int.one_mul]
  have h5 : (2 : Int) ^ k = ((2 ^ k : Nat) : Int) := (Int.natCast_pow 2 k).symm
  rw [h5]
  generalize (2 : Nat) ^ k = q at h2
  exact IntWalk.u64_in _ ⟨by omega, by omega⟩
/-- A prefix in naturals. -/
theorem pfx_nat {p : TPfx} (h : 0 ≤ p.addr ∧ p.addr < 4294967296) (hb : 0 ≤ p.bits ∧ p.bits ≤ 32) : ∃ n k : Nat, n < 2 ^ 32 ∧ k ≤ 32 ∧ p.addr = n ∧ p.bits = 32 - (k : Int) :=
  ⟨p.addr.toNat, (32 - p.bits).toNat, by omega, by omega, by omega, by omega⟩
theorem valid_eq (p : TPfx) (h : 0 ≤ p.addr ∧ p.addr < 4294967296) : pvalid p = rvalid p := by
  unfold pvalid rvalid
  by_cases hb : 0 ≤ p.bits ∧ p.bits ≤ 32
  · obtain ⟨n, k, hn, hk, ea, eb⟩ := pfx_nat h hb
    have h5 : (((n : Int)).tmod ((2 ^ k : Nat) : Int)) = ((n % 2 ^ k : Nat) : Int) := rfl
    rw [ea, eb, andN_mask n k hn hk, rsize_nat k hk, IntWalk.u64_in _ (by omega), h5]
  · by_cases h0 : 0 ≤ p.bits
    · have h1 : ¬ p.bits ≤ 32 := fun h => hb ⟨h0, h⟩
      simp [h1]
    · simp [h0]
theorem cont_eq (p : TPfx) (a : Int) (h : 0 ≤ p.addr ∧ p.addr < 4294967296) (ha : 0 ≤ a ∧ a < 4294967296) : rcont p a = pcont p a := by
  unfold rcont pcont rof
  rw [← valid_eq p h]
  by_cases hv : pvalid p = true
  · have hb := pvalid_bits hv
    obtain ⟨n, k, hn, hk, ea, eb⟩ := pfx_nat h hb
    have h0 : 0 < 2 ^ k := Nat.two_pow_pos k
    have hv' := hv
    simp only [pvalid, Bool.and_eq_true, beq_iff_eq] at hv'
    rw [ea, eb, andN_mask n k hn hk] at hv'
    have hm : n % 2 ^ k = 0 := by have := hv'.2; omega
    obtain ⟨q, hq⟩ := Nat.dvd_of_mod_eq_zero hm
    have h2 : (2 : Nat) ^ k ≤ 2 ^ 32 := Nat.pow_le_pow_right (by omega) hk
    have hnk : n + 2 ^ k ≤ 2 ^ 32 := by
      have e32 : (2 : Nat) ^ 32 = 2 ^ k * 2 ^ (32 - k) := by rw [← Nat.pow_add]; congr 1; omega
      rw [hq, e32] at hn
      have hq2 : q < 2 ^ (32 - k) := Nat.lt_of_mul_lt_mul_left hn
      have := Nat.mul_le_mul_left (2 ^ k) hq2
      rw [Nat.mul_succ] at this
      omega
    obtain ⟨m, rfl⟩ : ∃ m : Nat, a = m := ⟨a.toNat, by omega⟩
    have hml : m < 2 ^ 32 := by omega
    have hhi : rhi p = ((n + 2 ^ k - 1 : Nat) : Int) := by
      unfold rhi
      rw [ea, eb, rsize_nat k hk, IntWalk.u64_in (n : Int) (by omega), IntWalk.u64_in ((n : Int) + ((2 ^ k : Nat) : Int)) (by omega), IntWalk.u64_in _ (by omega), IntWalk.u32_in _ (by omega)]
      omega
    rw [hv, if_pos rfl, hhi, eb, andB_mask m k hml hk, ea]
    simp only [Bool.true_and]
    have hdm := Nat.div_add_mod m (2 ^ k)
    have hmod := Nat.mod_lt m h0
    rw [Nat.mul_comm] at hdm
    rw [Bool.eq_iff_iff]
    simp only [Bool.and_eq_true, decide_eq_true_eq, beq_iff_eq]
    constructor
    · rintro ⟨h3, h4⟩
      have h3' : n ≤ m := by omega
      have h4' : m ≤ n + 2 ^ k - 1 := by omega
      have e1 : m / 2 ^ k = q := by
        apply Nat.div_eq_of_lt_le
        · rw [Nat.mul_comm]; omega
        · rw [Nat.mul_comm, Nat.mul_succ]; omega
      rw [e1, Nat.mul_comm, ← hq]
    · intro h3
      have h3' : m / 2 ^ k * 2 ^ k = n := by omega
      omega
  · simp [hv]
end Go.Proofs.YtdehdgbdcfkpbaaGreatDoor
