/-
  Contracts of functions, walked over pure values.
-/
import Derived.Test.YtdehdgbdcfkpbaaGreatDoorKLib
namespace Go.Proofs.YtdehdgbdcfkpbaaGreatDoor
open Go Go.Pw
variable {Gl : Glob}
attribute [local irreducible] PW PWL OpP PCalls PWO
set_option maxHeartbeats 20000000

/-! ### topology.digits -/
def digs : Str := [48, 49, 50, 51, 52, 53, 54, 55, 56, 57]
def digitsB (s : Str) : Bool := (!(s == []) && ((s == [48]) || (((s.headD 0).toNat : Int) != 48))) && (Lib.trimS s digs == [])
theorem c100 (s : Str) (hl : s.length < 4294967281) : PFun Tryz.prog Gl 100 [.str s] fun r => r = .bool (digitsB s) := by
  refine PFun.of hT Tryz.func100 rfl fun B hD => ?_
  refine pw_norm rfl ?_
  (refine zGo ?_)
  refine pl_and 8 5 13 ((s == [48]) || (((s.headD 0).toNat : Int) != 48)) rfl rfl rfl (fun h0 => ?_) (fun h0 => ?_) ?_
  · refine pl_norm rfl ?_
    (refine zGo ?_)
    (refine pl_or 4 8 12 (((s.headD 0).toNat : Int) != 48) rfl rfl rfl (fun hb => ?_) (fun hb => ?_) ?_; (focus ((refine zNp ?_); (refine zGo ?_); exact ⟨by (exact zLe), StLe.refl _⟩)); (focus ((refine zNp ?_); (refine zGo ?_); have hne : ¬ s = [] := (by rintro rfl; simp at h0); (refine pl_on rfl rfl (op_of (v_indexs (c := s.headD 0) hT rfl rfl rfl rfl (by omega) (head_some (by assumption))) ?_); (refine zNp ?_)); (refine zGo ?_); exact ⟨by (exact zLe), StLe.refl _⟩)); (refine zNp ?_); (refine zGo ?_))
    exact ⟨by (exact zLe), StLe.refl _⟩
  · refine pl_norm rfl ?_
    (refine zGo ?_)
    exact ⟨by (exact zLe), StLe.refl _⟩
  refine pl_norm rfl ?_
  (refine zGo ?_)
  (refine pl_and 4 14 18 (Lib.trimS s digs == []) rfl rfl rfl (fun hb => ?_) (fun hb => ?_) ?_; (focus ((refine zNp ?_); (refine zGo ?_); (refine pl_on rfl rfl (op_fun (c127 s digs hl (by decide) (by decide)) rfl rfl e127 zLe rfl (fun r hr => ?_)); subst hr; refine ⟨rfl, ?_⟩; (refine zNp ?_)); (refine zGo ?_); exact ⟨by (exact zLe), StLe.refl _⟩)); (focus ((refine zNp ?_); (refine zGo ?_); exact ⟨by (exact zLe), StLe.refl _⟩)); (refine zNp ?_); (refine zGo ?_))
  refine ret1 _ rfl ?_ rfl
  rfl
/-! ### topology.form -/
def formP (w p : Str) : Bool := (w == p) || (decide (((p.headD 0).toNat : Int) ≥ 65) && decide (((p.headD 0).toNat : Int) ≤ 90))
theorem c126 (w p : Str) (hp : ¬ p = []) : PFun Tryz.prog Gl 126 [.str w, .str p] fun r => r = .bool (formP w p) := by
  refine PFun.of hT Tryz.func126 rfl fun B hD => ?_
  refine pw_norm rfl ?_
  (refine zGo ?_)
  refine pl_or 9 8 17 (decide (((p.headD 0).toNat : Int) ≥ 65) && decide (((p.headD 0).toNat : Int) ≤ 90)) rfl rfl rfl (fun hb => ?_) (fun hb => ?_) ?_
  · refine pl_norm rfl ?_
    (refine zGo ?_)
    exact ⟨by (exact zLe), StLe.refl _⟩
  · refine pl_norm rfl ?_
    (refine zGo ?_)
    (refine pl_on rfl rfl (op_of (v_indexs (c := p.headD 0) hT rfl rfl rfl rfl (by omega) (head_some hp)) ?_); (refine zNp ?_))
    (refine zGo ?_)
    (refine pl_and 4 12 16 (decide (((p.headD 0).toNat : Int) ≤ 90)) rfl rfl rfl (fun hb => ?_) (fun hb => ?_) ?_; (focus ((refine zNp ?_); (refine zGo ?_); (refine pl_on rfl rfl (op_of (v_indexs (c := p.headD 0) hT rfl rfl rfl rfl (by omega) (head_some hp)) ?_); (refine zNp ?_)); (refine zGo ?_); exact ⟨by (exact zLe), StLe.refl _⟩)); (focus ((refine zNp ?_); (refine zGo ?_); exact ⟨by (exact zLe), StLe.refl _⟩)); (refine zNp ?_); (refine zGo ?_))
    exact ⟨by (exact zLe), StLe.refl _⟩
  refine pl_norm rfl ?_
  (refine zGo ?_)
  refine ret1 _ rfl ?_ rfl
  rfl
def eqf (p : Str → Str → Bool) (l m : List Str) : Bool := decide (l.length = m.length) && (l.zip m).all fun x => p x.1 x.2
theorem c125 {f : FuncId} (hf : Enters Tryz.prog f) {p : Str → Str → Bool} (l m : List Str) (hl : Small l) (hp : ∀ a b, b ∈ m → PFun Tryz.prog Gl f [.str a, .str b] fun r => r = .bool (p a b)) :
    PFun Tryz.prog Gl 125 [.sl (l.map .str), .sl (m.map .str), .fn f []] fun r => r = .bool (eqf p l m) := by
  refine PFun.of hT Tryz.func125 rfl fun B hD => ?_
  refine pw_norm rfl ?_
  unfold Small at hl
  (refine zGo ?_)
  refine pw_cond rfl (fun h => ?_) (fun h => ?_)
  · (refine zGo ?_)
    refine ret1 _ rfl ?_ rfl
    have : ¬ l.length = m.length := by intro e; simp [e] at h
    simp [eqf, this]
  · have hlm : l.length = m.length := by have h' := h; simp [List.length_map] at h'; omega
    (refine zGo ?_)
    refine pw_for hD (fun i : Nat => [(17, .int .i64 i)]) (fun _ => []) (fun i => i ≤ l.length ∧ ∀ (j : Nat) a b, j < i → l[j]? = some a → m[j]? = some b → p a b = true) (fun i => l.length - i) 0 ⟨by omega, by intro j a b h; omega⟩ 0 rfl (fun _ => rfl) (StLe.refl _) (fun _ => rfl) (fun _ => rfl) (by (exact zLe)) ?_
    rintro i ⟨hi, hno⟩
    (refine zGo ?_)
    refine pw_cond rfl (fun h2 => ?_) (fun h2 => ?_)
    · simp only [decide_eq_true_eq, List.length_map] at h2
      have hlt : i < l.length := by omega
      have hlt2 : i < m.length := by omega
      (refine zGo ?_)
      (refine pl_op rfl (op_of (v_index (p := .str l[i]) hT rfl rfl rfl rfl (by omega) (by simp [hlt]) rfl) ?_); (refine zNp ?_))
      (refine zGo ?_)
      (refine pl_op rfl (op_of (v_index (p := .str m[i]) hT rfl rfl rfl rfl (by omega) (by simp [hlt2]) rfl) ?_); (refine zNp ?_))
      (refine zGo ?_)
      refine pl_op rfl (op_fun (hp l[i] m[i] (List.getElem_mem hlt2)) rfl rfl hf (by (exact zLe)) rfl (fun r hr => ?_))
      subst hr
      refine ⟨rfl, ?_⟩
      refine pl_norm rfl ?_
      (refine zGo ?_)
      refine pw_cond rfl (fun h3 => ?_) (fun h3 => ?_)
      · (refine zGo ?_)
        refine ret1 _ rfl ?_ rfl
        have h3' : p l[i] m[i] = false := by simpa using h3
        have : ((l.zip m).all fun x => p x.1 x.2) = false := List.all_eq_false.2 ⟨(l[i], m[i]), by
          have : (l.zip m)[i]'(by simp; omega) = (l[i], m[i]) := by simp
          rw [← this]; exact List.getElem_mem _, by simp [h3']⟩
        simp [eqf, this]
      · (refine zGo ?_)
        refine ⟨i + 1, ⟨by omega, fun j a b hj ha hb => ?_⟩, by omega, by (exact zLe), StLe.refl _⟩
        rcases Nat.lt_succ_iff_lt_or_eq.1 hj with hj | rfl
        · exact hno j a b hj ha hb
        · rw [List.getElem?_eq_getElem hlt] at ha; cases ha
          rw [List.getElem?_eq_getElem hlt2] at hb; cases hb
          simpa using h3
    · simp only [decide_eq_false_iff_not, List.length_map] at h2
      (refine zGo ?_)
      refine ret1 _ rfl ?_ rfl
      have : ((l.zip m).all fun x => p x.1 x.2) = true := List.all_eq_true.2 fun x hx => by
        obtain ⟨j, hj⟩ := List.mem_iff_getElem?.1 hx
        rw [List.getElem?_zip_eq_some] at hj
        exact hno j x.1 x.2 (by have := (List.getElem?_eq_some_iff.1 hj.1).1; omega) hj.1 hj.2
      simp [eqf, hlm, this]
def formB (w p : List Str) : Bool := eqf formP w p
theorem c99 (w p : List Str) (hl : Small w) (hp : ∀ b ∈ p, ¬ b = []) : PFun Tryz.prog Gl 99 [.sl (w.map .str), .sl (p.map .str)] fun r => r = .bool (formB w p) := by
  refine PFun.of hT Tryz.func99 rfl fun B hD => ?_
  refine pw_norm rfl ?_
  (refine zGo ?_)
  (refine pl_op rfl (op_fun (c125 e126 w p hl fun a b hb => c126 a b (hp b hb)) rfl rfl e125 zLe rfl (fun r hr => ?_)); subst hr; refine ⟨rfl, ?_⟩; (refine zNp ?_))
  (refine zGo ?_)
  refine ret1 _ rfl rfl rfl
/-! ### the cursor -/
theorem c101 (ws : List Str) (n : Nat) (word : Str) (hl : Small ws) (hn : n ≤ ws.length) : PCalls Tryz.prog Gl 101 [.ptr 0 0, .str word] [.box [.sl (ws.map .str), .int .i64 n]] fun r s =>
    r = .bool (ws[n]? == some word) ∧ s = [.box [.sl (ws.map .str), .int .i64 ((match ws[n]? == some word with | true => n + 1 | false => n : Nat) : Int)]] := by
  refine PCalls.of hT Tryz.func101 rfl 1 (Nat.le_refl _) fun B hD => ?_
  refine pw_norm rfl ?_
  unfold Small at hl
  (refine zGo ?_)
  refine pw_draw [(0, true), (1, true), (2, true), (3, true), (4, true), (5, true), (6, true), (7, true), (8, true), (9, true), (10, true), (11, true), (12, true), (13, true), (14, true), (15, true), (16, true), (17, true), (18, true), (19, true), (20, true), (21, true), (22, true), (23, true)] hmix (by decide +kernel) ?_
  (refine zDgo ?_)
  refine po_split 15 rfl (fun h => ?_) (fun h => ?_)
  · have hlt : n < ws.length := by simpa [List.length_map] using h
    (refine zDgo ?_)
    (refine po_gval rfl rfl rfl (v_index (p := .str ws[n]) hT rfl rfl rfl rfl (by omega) (by simp [hlt]) rfl) ?_; refine zDn ?_)
    (refine zDgo ?_)
    (refine zGo ?_)
    refine pw_cond rfl (fun h2 => ?_) (fun h2 => ?_)
    · (refine zGo ?_)
      have e : (ws[n]? == some word) = true := by rw [List.getElem?_eq_getElem hlt]; simpa using h2
      rw [e]
      exact ⟨_, _, _, rfl, ⟨rfl, rfl⟩, .inr (.inl rfl), ⟨.inr (.inl rfl), trivial⟩, rfl, rfl⟩
    · (refine zGo ?_)
      have e : (ws[n]? == some word) = false := by rw [List.getElem?_eq_getElem hlt]; simpa using h2
      rw [e]
      exact ⟨_, _, _, rfl, ⟨rfl, rfl⟩, .inr (.inl rfl), ⟨.inr (.inl rfl), trivial⟩, rfl, rfl⟩
  · (refine zDgo ?_)
    have hge : ¬ n < ws.length := by simpa [List.length_map] using h
    (refine zGo ?_)
    have e : (ws[n]? == some word) = false := by rw [List.getElem?_eq_none (by omega)]; rfl
    rw [e]
    exact ⟨_, _, _, rfl, ⟨rfl, rfl⟩, .inr (.inl rfl), ⟨.inr (.inl rfl), trivial⟩, rfl, rfl⟩
theorem c102 (ws : List Str) (n : Nat) (hl : Small ws) (hn : n ≤ ws.length) : PCalls Tryz.prog Gl 102 [.ptr 0 0] [.box [.sl (ws.map .str), .int .i64 n]] fun r s =>
    r = .str (ws.getD n []) ∧ s = [.box [.sl (ws.map .str), .int .i64 ((if n < ws.length then n + 1 else n : Nat) : Int)]] := by
  refine PCalls.of hT Tryz.func102 rfl 1 (Nat.le_refl _) fun B hD => ?_
  refine pw_norm rfl ?_
  unfold Small at hl
  (refine zGo ?_)
  refine pw_draw [(0, true), (1, true), (2, true), (3, true), (4, true), (5, true), (6, true), (7, true), (8, true), (9, true)] hmix (by decide +kernel) ?_
  (refine zDgo ?_)
  (refine zGo ?_)
  refine pw_cond rfl (fun h => ?_) (fun h => ?_)
  · have hge : ¬ n < ws.length := by simp [List.length_map] at h; omega
    (refine zGo ?_)
    rw [if_neg hge, List.getD, List.getElem?_eq_none (by omega)]
    exact ⟨_, _, _, rfl, ⟨rfl, rfl⟩, .inr (.inl rfl), ⟨.inr (.inl rfl), trivial⟩, rfl, rfl⟩
  · have hlt : n < ws.length := by simp [List.length_map] at h; omega
    (refine zGo ?_)
    refine pw_draw [(0, true), (1, true), (2, true), (3, true), (4, true), (5, true), (6, true), (7, true), (8, true), (9, true), (10, true), (11, true)] hmix (by decide +kernel) ?_
    (refine zDgo ?_)
    (refine po_val rfl rfl (v_index (p := .str ws[n]) hT rfl rfl rfl rfl (by omega) (by simp [hlt]) rfl) ?_; refine zDn ?_)
    (refine zDgo ?_)
    (refine zGo ?_)
    rw [if_pos hlt, List.getD, List.getElem?_eq_getElem hlt]
    exact ⟨_, _, _, rfl, ⟨rfl, rfl⟩, .inr (.inl rfl), ⟨.inr (.inl rfl), trivial⟩, rfl, rfl⟩
end Go.Proofs.YtdehdgbdcfkpbaaGreatDoor
