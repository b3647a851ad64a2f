/-
  The generators of lines and of changed texts.
  The law TopologyParses, walked.
-/
import Derived.Test.YtdehdgbdcfkpbaaGreatDoorKA5
import Derived.Test.YtdehdgbdcfkpbaaGreatDoorJPwFrz2
import Derived.Test.YtdehdgbdcfkpbaaGreatDoorKE9
import Derived.Test.YtdehdgbdcfkpbaaGreatDoorKG3
import Derived.Test.YtdehdgbdcfkpbaaGreatDoorKQ5
import Derived.Test.YtdehdgbdcfkpbaaGreatDoorKC7
import Derived.Test.YtdehdgbdcfkpbaaGreatDoorKD3
namespace Go.Proofs.YtdehdgbdcfkpbaaGreatDoor
open Go Go.Pw
variable {Gl : Glob}
attribute [local irreducible] PW PWL OpP PCalls PWO
set_option maxHeartbeats 20000000
set_option maxRecDepth 100000

def lines21 : List Str := [[100, 101, 118, 105, 99, 101, 32, 114, 49, 32, 99, 97, 112, 97, 99, 105, 116, 121, 32, 53], [100, 101, 118, 105, 99, 101, 32, 114, 57, 32, 99, 97, 112, 97, 99, 105, 116, 121, 32, 52, 48, 57, 55], [100, 101, 118, 105, 99, 101, 32, 114, 57, 32, 99, 97, 112, 97, 99, 105, 116, 121, 32, 55, 32, 118, 111, 108, 97, 116, 105, 108, 101, 32, 114, 97, 110, 103, 101, 115], [100, 101, 118, 105, 99, 101, 32, 114, 57, 32, 99, 97, 112, 97, 99, 105, 116, 121, 32, 55, 32, 99, 108, 97, 115, 115, 32, 97, 110, 121], [100, 101, 118, 105, 99, 101, 32, 114, 57, 32, 99, 97, 112, 97, 99, 105, 116, 121, 32, 48, 55], [108, 105, 110, 107, 32, 114, 49, 32, 114, 50, 32, 99, 111, 115, 116, 32, 48], [108, 105, 110, 107, 32, 114, 49, 32, 114, 57, 32, 99, 111, 115, 116, 32, 53], [108, 105, 110, 107, 32, 114, 49, 32, 114, 49, 32, 99, 111, 115, 116, 32, 53], [108, 105, 110, 107, 32, 114, 50, 32, 114, 49, 32, 99, 111, 115, 116, 32, 55], [101, 100, 103, 101, 32, 101, 57, 32, 97, 116, 32, 114, 49, 32, 122, 111, 110, 101, 32, 108, 97, 110, 32, 115, 117, 98, 110, 101, 116, 32, 49, 48, 46, 48, 46, 48, 46, 48, 47, 56], [101, 100, 103, 101, 32, 101, 57, 32, 97, 116, 32, 114, 49, 32, 122, 111, 110, 101, 32, 108, 97, 110, 32, 115, 105, 122, 101, 32, 51, 51], [101, 100, 103, 101, 32, 101, 49, 32, 97, 116, 32, 114, 49, 32, 122, 111, 110, 101, 32, 108, 97, 110, 32, 115, 105, 122, 101, 32, 50, 52], [101, 100, 103, 101, 32, 101, 57, 32, 97, 116, 32, 110, 111, 119, 104, 101, 114, 101, 32, 122, 111, 110, 101, 32, 108, 97, 110, 32, 115, 105, 122, 101, 32, 50, 52], [101, 100, 103, 101, 32, 101, 57, 32, 97, 116, 32, 114, 49, 32, 122, 111, 110, 101, 32, 108, 97, 110, 32, 115, 117, 98, 110, 101, 116, 32, 49, 46, 50, 46, 51, 46, 52, 47, 48], [101, 100, 103, 101, 32, 101, 57, 32, 97, 116, 32, 114, 49, 32, 122, 111, 110, 101, 32, 108, 97, 110, 32, 115, 117, 98, 110, 101, 116, 32, 48, 46, 48, 46, 48, 46, 48, 47, 48], [112, 111, 111, 108, 32, 49, 48, 46, 56, 46, 48, 46, 48, 47, 49, 54], [112, 111, 111, 108, 32, 49, 48, 46, 56, 46, 48, 46, 49, 47, 49, 54], [116, 111, 108, 101, 114, 97, 116, 101, 32, 49], [116, 111, 108, 101, 114, 97, 116, 101, 32, 57], [122, 111, 110, 101, 32, 108, 97, 110], [112, 111, 111, 108]]
theorem lines21_len : ∀ s ∈ lines21, s.length ≤ 60 := by decide
theorem c17 (l : List Int) (hl : Tp l) (i : Nat) (hi : i ≤ l.length) : Gen Gl 17 [] l i fun r => ∃ s : Str, s.length ≤ 61 ∧ r = .str s := by
  refine PCalls.of hT Tryz.func17 rfl 1 (Nat.le_refl _) fun B hD => ?_
  refine pw_norm rfl ?_
  (refine zGo ?_)
  (refine pl_op rfl (op_call [0] rfl rfl e13 (by decide) rfl rfl rfl zLe zLes (c13n l hl i hi 21 (by decide) (by decide)) (fun r s hq => ?_)); obtain ⟨i1, ⟨m, hm, rfl⟩, hi1, rfl⟩ := hq; refine ⟨rfl, rfl, ?_⟩; (refine zNp ?_))
  have hs : (lines21.getD m []).length ≤ 60 := lines21_len _ (getD_mem hm)
  (refine pl_op rfl (op_of (v_index (p := .str (lines21.getD m [])) hT rfl rfl rfl rfl (by omega) (lit_at .str lines21 m [] hm) rfl) ?_); (refine zNp ?_))
  generalize lines21.getD m [] = s at hs
  (refine zGo ?_)
  (refine pl_op rfl (op_of (v_concat rfl rfl rfl (by show _ + 1 ≤ _; omega)) ?_); (refine zNp ?_))
  (refine zGo ?_)
  exact ⟨_, _, _, rfl, ⟨i1, ⟨s ++ [10], by simp; omega, rfl⟩, hi1, rfl⟩, .inr (.inl rfl), ⟨.inr (.inl rfl), trivial⟩, rfl, rfl⟩
def bytes15 : List UInt8 := [32, 44, 61, 45, 48, 57, 97, 35, 10, 47, 46, 0, 128, 58, 62]
theorem c16 (l : List Int) (hl : Tp l) (i : Nat) (hi : i ≤ l.length) (s : Str) (hs : Small s) : Gen Gl 16 [.str s] l i fun r => ∃ u : Str, u.length ≤ s.length + 1 ∧ r = .str u := by
  refine PCalls.of hT Tryz.func16 rfl 1 (Nat.le_refl _) fun B hD => ?_
  refine pw_norm rfl ?_
  unfold Small at hs
  (refine zGo ?_)
  (refine pl_op rfl (op_tobytes hT rfl rfl rfl rfl rfl (by unfold maxLen; omega) (fun cap hcap => ?_)); (refine zNp ?_))
  (refine zGo ?_)
  (refine pl_op rfl (op_call [0] rfl rfl e13 (by decide) rfl rfl rfl zLe zLes (c13 l hl i hi (s.length : Int) (by omega)) (fun r s hq => ?_)); obtain ⟨m, i1, rfl, hm0, hm1, hi1, rfl⟩ := hq; refine ⟨rfl, rfl, ?_⟩; (refine zNp ?_))
  obtain ⟨m, rfl⟩ : ∃ n : Nat, m = (n : Int) := ⟨m.toNat, by omega⟩
  have hml : m ≤ s.length := by omega
  (refine zGo ?_)
  (refine pl_op rfl (op_call [0] rfl rfl e13 (by decide) rfl rfl rfl zLe zLes (c13n l hl i1 hi1 15 (by decide) (by decide)) (fun r s hq => ?_)); obtain ⟨i2, ⟨m2, hm2, rfl⟩, hi2, rfl⟩ := hq; refine ⟨rfl, rfl, ?_⟩; (refine zNp ?_))
  (refine pl_op rfl (op_of (v_index (p := eByte (bytes15.getD m2 0)) hT rfl rfl rfl rfl (by omega) (lit_at eByte bytes15 m2 0 hm2) rfl) ?_); (refine zNp ?_))
  generalize bytes15.getD m2 0 = cb
  (refine zGo ?_)
  (refine pl_op rfl (op_call [0] rfl rfl e13 (by decide) rfl rfl rfl zLe zLes (c13n l hl i2 hi2 5 (by decide) (by decide)) (fun r s hq => ?_)); obtain ⟨i3, ⟨k, hk, rfl⟩, hi3, rfl⟩ := hq; refine ⟨rfl, rfl, ?_⟩; (refine zNp ?_))
  (refine zGo ?_)
  refine pw_cond rfl (fun h1 => ?_) (fun h1 => ?_)
  · (refine zGo ?_)
    refine pw_cond rfl (fun h2 => ?_) (fun h2 => ?_)
    · have hpos : 0 < s.length := by simpa using h2
      have hlt : m < s.length := by omega
      (refine zGo ?_)
      (refine pl_op rfl (op_of (v_indexm hT rfl rfl rfl rfl rfl (by omega) (by omega) (by omega)) ?_); (refine zNp ?_))
      (refine zGo ?_)
      (refine pl_op rfl (op_storeE' (x0 := eByte s[m]) (x1 := eByte cb) (xs' := (s.set m cb).map eByte) hT rfl rfl rfl rfl rfl (by omega) (by simp [hlt]) rfl rfl rfl rfl (Nat.le_of_ble_eq_true rfl) rfl (show (s.map eByte).set (0 + m) (eByte cb) = (s.set m cb).map eByte by rw [Nat.zero_add, List.map_set]) ?_); (refine zNp ?_))
      (refine zGo ?_)
      (refine pl_op rfl (v_bstrM (bs := s.set m cb) hT rfl rfl rfl rfl rfl rfl (by simp) ?_); (refine zNp ?_))
      (refine zGo ?_)
      exact ⟨_, _, _, rfl, ⟨i3, ⟨s.set m cb, by simp, rfl⟩, hi3, rfl⟩, .inr (.inl rfl), ⟨.inr (.inl rfl), trivial⟩, rfl, rfl⟩
    · (refine zGo ?_)
      (refine pl_op rfl (v_bstrM (bs := s) hT rfl rfl rfl rfl rfl rfl rfl ?_); (refine zNp ?_))
      (refine zGo ?_)
      exact ⟨_, _, _, rfl, ⟨i3, ⟨s, by omega, rfl⟩, hi3, rfl⟩, .inr (.inl rfl), ⟨.inr (.inl rfl), trivial⟩, rfl, rfl⟩
  (refine zGo ?_)
  refine pw_cond rfl (fun h1 => ?_) (fun h1 => ?_)
  · (refine zGo ?_)
    refine pw_cond rfl (fun h2 => ?_) (fun h2 => ?_)
    · have hpos : 0 < s.length := by simpa using h2
      have hlt : m < s.length := by omega
      (refine zGo ?_)
      refine pw_draw [(0, true), (1, true), (2, true), (3, true), (4, true), (5, true), (6, true), (7, false), (8, true)] hmix (by decide +kernel) ?_
      (refine zDgo ?_)
      (refine po_val rfl rfl (v_sliceHi (m := m) hT rfl rfl rfl rfl (by omega)) ?_; refine zDn ?_)
      (refine zDgo ?_)
      (refine po_val rfl rfl (v_sliceLo (m := m + 1) hT rfl rfl rfl rfl (by omega) hcap) ?_; refine zDn ?_)
      (refine zDgo ?_)
      (refine po_step rfl rfl (op_appendB (b := 1) hT rfl rfl rfl rfl hml rfl rfl (by omega) (.inr (by omega)) (by omega) (fun cap' _ _ => ⟨(by (exact zLok)), ?_⟩)); refine po_norm rfl ?_)
      (refine zDgo ?_)
      (refine zGo ?_)
      (refine pl_op rfl (v_bstrM (bs := s.take m ++ (s.drop (0 + (m + 1))).take (s.length - (m + 1))) hT rfl rfl rfl rfl rfl rfl (by simp; omega) ?_); (refine zNp ?_))
      (refine zGo ?_)
      exact ⟨_, _, _, rfl, ⟨i3, ⟨s.take m ++ (s.drop (0 + (m + 1))).take (s.length - (m + 1)), by simp; omega, rfl⟩, hi3, rfl⟩, .inr (.inl rfl), ⟨.inr (.inl rfl), trivial⟩, rfl, rfl⟩
    · (refine zGo ?_)
      (refine pl_op rfl (v_bstrM (bs := s) hT rfl rfl rfl rfl rfl rfl rfl ?_); (refine zNp ?_))
      (refine zGo ?_)
      exact ⟨_, _, _, rfl, ⟨i3, ⟨s, by omega, rfl⟩, hi3, rfl⟩, .inr (.inl rfl), ⟨.inr (.inl rfl), trivial⟩, rfl, rfl⟩
  (refine zGo ?_)
  refine pw_cond rfl (fun h1 => ?_) (fun h1 => ?_)
  · (refine zGo ?_)
    refine pw_draw [(0, true), (1, true), (2, true), (3, true), (5, true), (6, true), (7, true), (4, false), (8, false), (9, false), (10, true)] hmix (by decide +kernel) ?_
    (refine zDgo ?_)
    (refine po_val rfl rfl (v_sliceHi (m := m) hT rfl rfl rfl rfl (by omega)) ?_; refine zDn ?_)
    (refine zDgo ?_)
    (refine po_val rfl rfl (v_sliceLo (m := m) hT rfl rfl rfl rfl hml hcap) ?_; refine zDn ?_)
    (refine zDgo ?_)
    (refine po_step rfl rfl (op_litm hT rfl rfl rfl rfl rfl (by decide) rfl rfl rfl rfl ⟨zLok, ?_⟩); refine zDn ?_)
    (refine zDgo ?_)
    (refine po_step rfl rfl (op_appendB (b := 1) (xs := [cb]) hT rfl rfl rfl rfl (Nat.le_refl _) rfl rfl (by omega) (.inr (by decide)) (by omega) (fun cap1 _ _ => ⟨(by (exact zLok)), ?_⟩)); refine po_norm rfl ?_)
    (refine zDgo ?_)
    (refine po_step rfl rfl (op_appendB (b := 1) hT rfl rfl rfl rfl hml rfl rfl (by simp; omega) (.inl (by omega)) (by omega) (fun cap2 _ _ => ⟨(by (exact zLok)), ?_⟩)); refine po_norm rfl ?_)
    (refine zDgo ?_)
    (refine zGo ?_)
    (refine pl_op rfl (v_bstrM (bs := s.take m ++ ((([cb].take 1 ++ (s.drop (0 + m)).take (s.length - m))).drop 0).take (1 + (s.length - m))) hT rfl rfl rfl rfl rfl rfl (by simp; omega) ?_); (refine zNp ?_))
    (refine zGo ?_)
    exact ⟨_, _, _, rfl, ⟨i3, ⟨s.take m ++ ((([cb].take 1 ++ (s.drop (0 + m)).take (s.length - m))).drop 0).take (1 + (s.length - m)), by simp; omega, rfl⟩, hi3, rfl⟩, .inr (.inl rfl), ⟨.inr (.inl rfl), trivial⟩, rfl, rfl⟩
  (refine zGo ?_)
  refine pw_cond rfl (fun h1 => ?_) (fun h1 => ?_)
  · refine pw_shrink 1 m rfl ?_
    refine pw_norm rfl ?_
    rw [← List.map_take]
    (refine zGo ?_)
    (refine pl_op rfl (op_of (v_sliceHi (m := m) hT rfl rfl rfl rfl (by omega)) ?_); (refine zNp ?_))
    (refine zGo ?_)
    (refine pl_op rfl (v_bstrM (bs := s.take m) hT rfl rfl rfl rfl rfl rfl (by simp; omega) ?_); (refine zNp ?_))
    (refine zGo ?_)
    exact ⟨_, _, _, rfl, ⟨i3, ⟨s.take m, by simp; omega, rfl⟩, hi3, rfl⟩, .inr (.inl rfl), ⟨.inr (.inl rfl), trivial⟩, rfl, rfl⟩
  · (refine zGo ?_)
    (refine pl_op rfl (v_bstrM (bs := s) hT rfl rfl rfl rfl rfl rfl rfl ?_); (refine zNp ?_))
    (refine zGo ?_)
    exact ⟨_, _, _, rfl, ⟨i3, ⟨s, by omega, rfl⟩, hi3, rfl⟩, .inr (.inl rfl), ⟨.inr (.inl rfl), trivial⟩, rfl, rfl⟩
end Go.Proofs.YtdehdgbdcfkpbaaGreatDoor
namespace Go.Proofs.YtdehdgbdcfkpbaaGreatDoor
open Go Go.Pw
variable {Gl : Glob}
attribute [local irreducible] PW PWL OpP PCalls PWO
set_option maxHeartbeats 20000000
set_option maxRecDepth 100000

theorem PGen.pin {n : Nat} {t : Topo} (h : PGen n t) : PIn t := by
  refine ⟨fun e he => ?_, ?_⟩
  · obtain ⟨i, hi⟩ := List.mem_iff_getElem?.1 he
    rcases (h.edges i e hi).pfx with ⟨_, h2⟩ | ⟨_, b, _, h2⟩
    · rw [h2]; exact subnet_in i
    · rw [h2]; exact ⟨Int.le_refl 0, by show (0 : Int) < 4294967296; decide⟩
  · intro p hp
    rcases h.pools with h2 | h2 | h2 <;> rw [h2] at hp <;> simp at hp
    · rw [hp]; exact ⟨by decide, by decide⟩
    · rw [hp]; exact ⟨by decide, by decide⟩
    · rcases hp with hp | hp <;> rw [hp] <;> exact ⟨by decide, by decide⟩
theorem c3 (hG : GM Gl) (l : List Int) (hl : Tp l) (s : Str) : PFun Tryz.prog Gl 3 [.sl (l.map eInt), .str s] fun r => r = .bool true := by
  refine PFun.of hT Tryz.func3 rfl fun B hD => ?_
  refine pw_norm rfl ?_
  (refine zGo ?_)
  (refine pl_op rfl (op_call [] rfl rfl e10 (by decide) rfl rfl rfl zLe zLes (c10 l) (fun r s hq => ?_)); obtain ⟨rfl, rfl⟩ := hq; refine ⟨rfl, rfl, ?_⟩; (refine zNp ?_))
  (refine zGo ?_)
  refine pw_for hD (fun a : Nat × Nat => [(6, .int .i64 a.1)]) (fun a => [tape l a.2]) (fun a => a.1 ≤ 4 ∧ a.2 ≤ l.length) (fun a => 4 - a.1) (0, 0) ⟨Nat.zero_le _, Nat.zero_le _⟩ 1 rfl (fun _ => rfl) (by (exact zLes)) (fun _ => rfl) (fun _ => rfl) (by (exact zLe)) ?_
  rintro ⟨i, j⟩ ⟨hi, hj⟩
  dsimp only at hi hj ⊢
  (refine zGo ?_)
  refine pw_cond rfl (fun h => ?_) (fun h => ?_)
  · have hi4 : i < 4 := by simp at h; omega
    (refine zGo ?_)
    (refine pl_op rfl (op_call [0] rfl rfl e12 (by decide) rfl rfl rfl zLe zLes (c12 l hl j hj 4 (by decide) (by decide)) (fun r s hq => ?_)); obtain ⟨j1, T, c, ⟨m, hmn, hg⟩, hj1, rfl, rfl⟩ := hq; refine ⟨rfl, rfl, ?_⟩; (refine zNp ?_))
    have hx := rFormat_len (t := T)
    (refine pl_op rfl (op_lend0 (c11 T ⟨hg.pin.edges, hg.pin.pools⟩) rfl rfl e11 zLef rfl (fun r hr => ?_)); subst hr; refine ⟨rfl, ?_⟩; (refine zNp ?_))
    generalize rFormat T = X at hx
    (refine zGo ?_)
    (refine pl_op rfl (op_call [0] rfl rfl e13 (by decide) rfl rfl rfl zLe zLes (c13n l hl j1 hj1 3 (by decide) (by decide)) (fun r s hq => ?_)); obtain ⟨j2, ⟨k2, hk2, rfl⟩, hj2, rfl⟩ := hq; refine ⟨rfl, rfl, ?_⟩; (refine zNp ?_))
    (refine zGo ?_)
    refine pw_joinX hD (fun a : Str × Nat => a.1.length ≤ 11457 ∧ a.2 ≤ l.length) (fun a => [(7, .str a.1), (17, .any)]) (fun a => [tape l a.2]) 1 rfl (fun _ => rfl) (fun _ => rfl) (fun _ => rfl) ?_ ?_
    · refine pw_cond rfl (fun h2 => ?_) (fun h2 => ?_)
      · (refine zGo ?_)
        (refine pl_op rfl (op_call [0] rfl rfl e14 (by decide) rfl rfl rfl zLe zLes (c14 l hl j2 hj2 3 (by decide) (by decide)) (fun r s hq => ?_)); obtain ⟨j3, T2, c2, ⟨m2, hmn2, hg2⟩, hj3, rfl, rfl⟩ := hq; refine ⟨rfl, rfl, ?_⟩; (refine zNp ?_))
        have hx2 := rFormat_len (t := T2)
        (refine pl_op rfl (op_lend0 (c11 T2 ⟨hg2.pin.edges, hg2.pin.pools⟩) rfl rfl e11 zLef rfl (fun r hr => ?_)); subst hr; refine ⟨rfl, ?_⟩; (refine zNp ?_))
        generalize rFormat T2 = X2 at hx2
        (refine zGo ?_)
        exact ⟨(X2.1, j3), ⟨hx2, hj3⟩, by (exact zLe), by (exact zLes)⟩
      · (refine zGo ?_)
        exact ⟨(X.1, j2), ⟨hx, hj2⟩, by (exact zLe), by (exact zLes)⟩
    rintro ⟨x, j1'⟩ ⟨hx', hj1'⟩
    dsimp only at hx' hj1' ⊢
    (refine zGo ?_)
    (refine pl_op rfl (op_fun (c15 hG x) rfl rfl e15 zLe rfl (fun r hr => ?_)); subst hr; refine ⟨rfl, ?_⟩; (refine zNp ?_))
    (refine zGo ?_)
    (refine pl_on rfl rfl (op_call [0] rfl rfl e16 (by decide) rfl rfl rfl zLe zLes (c16 l hl j1' hj1' x (by unfold Small; omega)) (fun r s hq => ?_)); obtain ⟨j2, ⟨u, hu, rfl⟩, hj2, rfl⟩ := hq; refine ⟨rfl, rfl, ?_⟩; (refine zNp ?_))
    (refine zGo ?_)
    (refine pl_on rfl rfl (op_fun (c15 hG u) rfl rfl e15 zLe rfl (fun r hr => ?_)); subst hr; refine ⟨rfl, ?_⟩; (refine zNp ?_))
    (refine zGo ?_)
    (refine pl_on rfl rfl (op_call [0] rfl rfl e17 (by decide) rfl rfl rfl zLe zLes (c17 l hl j2 hj2) (fun r s hq => ?_)); obtain ⟨j3, ⟨s1, hs1, rfl⟩, hj3, rfl⟩ := hq; refine ⟨rfl, rfl, ?_⟩; (refine zNp ?_))
    (refine zGo ?_)
    (refine pl_on rfl rfl (op_of (v_concat rfl rfl rfl (by omega)) ?_); (refine zNp ?_))
    (refine zGo ?_)
    (refine pl_on rfl rfl (op_fun (c15 hG (x ++ s1)) rfl rfl e15 zLe rfl (fun r hr => ?_)); subst hr; refine ⟨rfl, ?_⟩; (refine zNp ?_))
    (refine zGo ?_)
    (refine pl_on rfl rfl (op_call [0] rfl rfl e17 (by decide) rfl rfl rfl zLe zLes (c17 l hl j3 hj3) (fun r s hq => ?_)); obtain ⟨j4, ⟨s2, hs2, rfl⟩, hj4, rfl⟩ := hq; refine ⟨rfl, rfl, ?_⟩; (refine zNp ?_))
    (refine zGo ?_)
    (refine pl_on rfl rfl (op_of (v_concat rfl rfl rfl (by omega)) ?_); (refine zNp ?_))
    (refine zGo ?_)
    (refine pl_on rfl rfl (op_call [0] rfl rfl e17 (by decide) rfl rfl rfl zLe zLes (c17 l hl j4 hj4) (fun r s hq => ?_)); obtain ⟨j5, ⟨s3, hs3, rfl⟩, hj5, rfl⟩ := hq; refine ⟨rfl, rfl, ?_⟩; (refine zNp ?_))
    (refine zGo ?_)
    (refine pl_on rfl rfl (op_of (v_concat rfl rfl rfl (by rw [List.length_append]; omega)) ?_); (refine zNp ?_))
    (refine zGo ?_)
    (refine pl_on rfl rfl (op_fun (c15 hG (x ++ s2 ++ s3)) rfl rfl e15 zLe rfl (fun r hr => ?_)); subst hr; refine ⟨rfl, ?_⟩; (refine zNp ?_))
    (refine zGo ?_)
    (refine pl_on rfl rfl (op_call [0] rfl rfl e17 (by decide) rfl rfl rfl zLe zLes (c17 l hl j5 hj5) (fun r s hq => ?_)); obtain ⟨j6, ⟨s4, hs4, rfl⟩, hj6, rfl⟩ := hq; refine ⟨rfl, rfl, ?_⟩; (refine zNp ?_))
    (refine zGo ?_)
    (refine pl_on rfl rfl (op_of (v_concat rfl rfl rfl (by omega)) ?_); (refine zNp ?_))
    (refine zGo ?_)
    (refine pl_on rfl rfl (op_fun (c15 hG (s4 ++ x)) rfl rfl e15 zLe rfl (fun r hr => ?_)); subst hr; refine ⟨rfl, ?_⟩; (refine zNp ?_))
    (refine zGo ?_)
    exact ⟨(i + 1, j6), ⟨hi4, hj6⟩, by show 4 - (i + 1) < 4 - i; omega, by (exact zLe), by (exact zLes)⟩
  · (refine zGo ?_)
    (refine pl_op rfl (op_fun (c15 hG s) rfl rfl e15 zLe rfl (fun r hr => ?_)); subst hr; refine ⟨rfl, ?_⟩; (refine zNp ?_))
    (refine zGo ?_)
    (refine pl_on rfl rfl (op_fun (c18 hG) rfl rfl e18 zLe rfl (fun r hr => ?_)); subst hr; refine ⟨rfl, ?_⟩; (refine zNp ?_))
    (refine zGo ?_)
    exact ret1 _ rfl rfl rfl
end Go.Proofs.YtdehdgbdcfkpbaaGreatDoor
