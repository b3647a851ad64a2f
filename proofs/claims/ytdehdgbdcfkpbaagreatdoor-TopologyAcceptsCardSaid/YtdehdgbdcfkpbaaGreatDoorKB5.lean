/-
  Contracts of functions, walked over pure values.
-/
import Derived.Test.YtdehdgbdcfkpbaaGreatDoorKB4
namespace Go.Proofs.YtdehdgbdcfkpbaaGreatDoor
open Go Go.Pw
variable {Gl : Glob}
attribute [local irreducible] PW PWL OpP PCalls PWO
set_option maxHeartbeats 20000000

/-! ### source.words -/
def sub (s : Str) (a b : Nat) : Str := (s.take b).drop a
def endW (s : Str) (out : List Str) (st : Option Nat) (at_ : Nat) : List Str := match st with | some k => out ++ [sub s k at_] | none => out
def stI (st : Option Nat) : Int := match st with | some k => (k : Int) | none => -1
theorem c124 (s : Str) (_hl : Small s) (out : List Str) (cap : Nat) (st : Option Nat) (n : Nat) (hst : ∀ k, st = some k → k ≤ n) (hn : n ≤ s.length) (ho : out.length ≤ 2 ^ 41) :
    PCalls Tryz.prog Gl 124 [.int .i64 n, .ptr 0 0, .ptr 1 0, .ptr 2 0] [.box [.int .i64 (stI st)], .box [.msl 1 3 0 (out.map PV.str).length cap], .box [.str s], .arr 1 (out.map .str) cap] fun r σ =>
      r = .tup [] ∧ ∃ cap', σ = [.box [.int .i64 (-1)], .box [.msl 1 3 0 ((endW s out st n).map PV.str).length cap'], .box [.str s], .arr 1 ((endW s out st n).map .str) cap'] := by
  refine PCalls.of hT Tryz.func124 rfl 4 (Nat.le_refl _) fun B hD => ?_
  refine pw_norm rfl ?_
  unfold Small at _hl
  (refine zGo ?_)
  refine pw_cond rfl (fun h => ?_) (fun h => ?_)
  · obtain ⟨k, rfl⟩ : ∃ k, st = some k := by cases st with | none => simp [stI] at h | some k => exact ⟨k, rfl⟩
    have hk := hst k rfl
    (refine zGo ?_)
    refine pw_draw [(0, true), (1, true), (2, true), (3, true), (4, true), (5, true), (6, false), (7, false)] hmix (by decide +kernel) ?_
    (refine zDgo ?_)
    (refine po_val rfl rfl (v_substr hT rfl rfl rfl rfl rfl (by simp [stI]) (by simp [stI]; omega) (by omega)) ?_; refine zDn ?_)
    (refine zDgo ?_)
    (refine po_make rfl rfl (fun st' K hK => op_litF hT rfl rfl rfl rfl rfl (by decide) rfl rfl rfl rfl hK) ?_; refine zDn ?_)
    (refine po_step rfl rfl (op_append (b := 16) hT rfl rfl rfl rfl rfl rfl (.inl (Nat.zero_lt_succ _)) rfl rfl (by simp; omega) (fun cap' _ hcap => ⟨zLok, ?_⟩)); refine zDn ?_)
    (refine zDgo ?_)
    (refine pw_mv 3 4 hD rfl rfl rfl rfl rfl ?_; refine pw_norm rfl ?_)
    (refine pw_trim 4 hD rfl rfl ?_; refine pw_norm rfl ?_)
    (refine zGo ?_)
    have e : (out.map PV.str) ++ [PV.str (sub s k n)] = (endW s out (some k) n).map PV.str := by simp [endW]
    refine ⟨_, _, [.box [.int .i64 (-1)], .box [.msl 1 3 0 ((endW s out (some k) n).map PV.str).length cap'], .box [.str s], .arr 1 ((endW s out (some k) n).map .str) cap'], rfl, ⟨rfl, cap', rfl⟩, .inr (.inl rfl), ?_, rfl, rfl⟩
    simp only [← e, List.length_append]
    exact ⟨.inr (.inl rfl), .inr (.inl rfl), .inr (.inl rfl), .inr (.inl rfl), trivial⟩
  · have hst0 : st = none := by cases st with | none => rfl | some k => simp [stI] at h
    subst hst0
    (refine zGo ?_)
    exact ⟨_, _, _, rfl, ⟨rfl, cap, rfl⟩, .inr (.inl rfl), ⟨.inr (.inl rfl), .inr (.inl rfl), .inr (.inl rfl), .inr (.inl rfl), trivial⟩, rfl, rfl⟩

theorem endW_len (s : Str) (out : List Str) (st : Option Nat) (n : Nat) : (endW s out st n).length ≤ out.length + 1 := by cases st <;> simp [endW]
def wrun (s : Str) : Nat → Nat → List Str → Option Nat → List Str
  | 0, i, out, st => endW s out st i
  | n + 1, i, out, st => match s[i]? with
    | none => endW s out st i
    | some c => if c = 35 then endW s out st i else if (c = 32 ∨ c = 9) then wrun s n (i + 1) (endW s out st i) none else if (c = 44 ∨ c = 61) then wrun s n (i + 1) (endW s out st i ++ [sub s i (i + 1)]) none else wrun s n (i + 1) out (some (st.getD i))
def words (s : Str) : List Str := wrun s s.length 0 [] none
/-- What a call of the closure 'end' leaves, in the frame of words. -/
theorem c98 (s : Str) (hl : Small s) : PFun Tryz.prog Gl 98 [.str s] fun r => r = .sl ((words s).map .str) := by
  refine PFun.of hT Tryz.func98 rfl fun B hD => ?_
  refine pw_norm rfl ?_
  unfold Small at hl
  (refine zGo ?_)
  refine pw_scope ?_ (fun l env st h => h)
  (refine zGo ?_)
  refine pw_label ?_
  (refine zGo ?_)
  refine pw_ghost 1 ?_
  refine pw_norm rfl ?_
  refine pw_for hD (fun a : Nat × List Str × Option Nat × Nat => [(6, .int .i64 a.1)]) (fun a => [.box [.str s], .box [.msl 1 3 0 (a.2.1.map PV.str).length a.2.2.2], .box [.int .i64 (stI a.2.2.1)], .arr 1 (a.2.1.map .str) a.2.2.2])
    (fun a => wrun s (s.length - a.1) a.1 a.2.1 a.2.2.1 = words s ∧ a.1 ≤ s.length ∧ (∀ k, a.2.2.1 = some k → k < a.1) ∧ a.2.1.length ≤ 2 * a.1) (fun a => s.length - a.1) (0, [], none, 0) ⟨rfl, Nat.zero_le _, by intro k h; (cases h), Nat.le_refl _⟩ 4 rfl (fun _ => rfl)
    ⟨.inl rfl, .inr (.inr ⟨_, _, rfl, rfl, .inr (.inr (.inr (.inl ⟨rfl, _, _, rfl⟩))), trivial⟩), .inl rfl, .inl rfl, trivial⟩ (fun _ => rfl) (fun _ => rfl) (by (exact zLe)) ?_
  rintro ⟨i, out, st, cap⟩ ⟨hw, hi, hst, ho⟩
  (refine zGo ?_)
  refine pw_cond rfl (fun h => ?_) (fun h => ?_)
  · simp only [decide_eq_true_eq] at h
    have hlt : i < s.length := by omega
    (refine zGo ?_)
    (refine pl_op rfl (op_of (v_indexs (c := s[i]) hT rfl rfl rfl rfl (by omega) (by simp [hlt])) ?_); (refine zNp ?_))
    (refine zGo ?_)
    have hgi : s[i]? = some s[i] := List.getElem?_eq_getElem hlt
    have hst' : ∀ k, st = some k → k ≤ i := fun k hk => by have := hst k hk; omega
    have hoB : out.length ≤ 2 ^ 41 := by have : out.length ≤ 2 * i := ho; omega
    have hw' := hw
    rw [show s.length - i = (s.length - (i + 1)) + 1 by omega] at hw'
    simp only [wrun, hgi] at hw'
    refine pw_cond rfl (fun h1 => ?_) (fun h1 => ?_)
    · have hc : s[i] = 35 := by simp at h1; exact UInt8.toNat_inj.1 (show s[i].toNat = 35 by omega)
      rw [if_pos hc] at hw'
      (refine zGo ?_)
      (refine pl_op rfl (op_callA [2, 1, 0, 3] rfl rfl e124 (by decide) rfl rfl rfl zLe zLes (c124 s hl out cap st i hst' (by omega) hoB) (fun r s hq => ?_)); obtain ⟨rfl, cap', rfl⟩ := hq; refine ⟨rfl, rfl, ?_⟩; (refine zNp ?_))
      refine pl_nil ?_
      (refine pw_mv 3 7 hD rfl rfl rfl rfl rfl ?_; refine pw_norm rfl ?_)
      (refine pw_trim 4 hD rfl rfl ?_; refine pw_norm rfl ?_)
      (refine zGo ?_)
      rw [← hw']
      exact ret0 _ _ rfl rfl (.inr (.inr (.inr (.inl ⟨_, _, _, _, _, _, rfl, rfl, rfl, rfl, rfl⟩)))) rfl
    · have hc : ¬ s[i] = 35 := by rintro hc; simp [hc] at h1
      rw [if_neg hc] at hw'
      (refine zGo ?_)
      refine pw_cond rfl (fun h2 => ?_) (fun h2 => ?_)
      · have hc2 : s[i] = 32 := by simp at h2; exact UInt8.toNat_inj.1 (show s[i].toNat = 32 by omega)
        rw [if_pos (.inl hc2)] at hw'
        (refine zGo ?_)
        refine pw_condB rfl true h2 ?_
        (refine zGo ?_)
        (refine pl_op rfl (op_callA [2, 1, 0, 3] rfl rfl e124 (by decide) rfl rfl rfl zLe zLes (c124 s hl out cap st i hst' (by omega) hoB) (fun r s hq => ?_)); obtain ⟨rfl, cap', rfl⟩ := hq; refine ⟨rfl, rfl, ?_⟩; (refine zNp ?_))
        refine pl_nil ?_
        (refine pw_mv 3 7 hD rfl rfl rfl rfl rfl ?_; refine pw_norm rfl ?_)
        (refine pw_trim 4 hD rfl rfl ?_; refine pw_norm rfl ?_)
        (refine zGo ?_)
        refine ⟨(i + 1, endW s out st i, none, cap'), ⟨hw', by show i + 1 ≤ _; omega, by intro k hk; (cases hk), by have := endW_len s out st i; have : out.length ≤ 2 * i := ho; show (endW s out st i).length ≤ 2 * (i + 1); omega⟩, by show _ - (i + 1) < _ - i; omega, by (exact zLe), by (exact zLes)⟩
      · have hc2 : ¬ s[i] = 32 := by rintro hc; simp [hc] at h2
        (refine zGo ?_)
        refine pw_cond rfl (fun h3 => ?_) (fun h3 => ?_)
        · have hc3 : s[i] = 9 := by simp at h3; exact UInt8.toNat_inj.1 (show s[i].toNat = 9 by omega)
          rw [if_pos (.inr hc3)] at hw'
          (refine zGo ?_)
          (refine pl_op rfl (op_callA [2, 1, 0, 3] rfl rfl e124 (by decide) rfl rfl rfl zLe zLes (c124 s hl out cap st i hst' (by omega) hoB) (fun r s hq => ?_)); obtain ⟨rfl, cap', rfl⟩ := hq; refine ⟨rfl, rfl, ?_⟩; (refine zNp ?_))
          refine pl_nil ?_
          (refine pw_mv 3 7 hD rfl rfl rfl rfl rfl ?_; refine pw_norm rfl ?_)
          (refine pw_trim 4 hD rfl rfl ?_; refine pw_norm rfl ?_)
          (refine zGo ?_)
          refine ⟨(i + 1, endW s out st i, none, cap'), ⟨hw', by show i + 1 ≤ _; omega, by intro k hk; (cases hk), by have := endW_len s out st i; have : out.length ≤ 2 * i := ho; show (endW s out st i).length ≤ 2 * (i + 1); omega⟩, by show _ - (i + 1) < _ - i; omega, by (exact zLe), by (exact zLes)⟩
        · have hc3 : ¬ s[i] = 9 := by rintro hc; simp [hc] at h3
          rw [if_neg (by rintro (h | h); exact hc2 h; exact hc3 h)] at hw'
          (refine zGo ?_)
          refine pw_cond rfl (fun h4 => ?_) (fun h4 => ?_)
          · have hc4 : s[i] = 44 := by simp at h4; exact UInt8.toNat_inj.1 (show s[i].toNat = 44 by omega)
            rw [if_pos (.inl hc4)] at hw'
            (refine zGo ?_)
            refine pw_condB rfl true h4 ?_
            (refine zGo ?_)
            (refine pl_op rfl (op_callA [2, 1, 0, 3] rfl rfl e124 (by decide) rfl rfl rfl zLe zLes (c124 s hl out cap st i hst' (by omega) hoB) (fun r s hq => ?_)); obtain ⟨rfl, cap', rfl⟩ := hq; refine ⟨rfl, rfl, ?_⟩; (refine zNp ?_))
            refine pl_nil ?_
            (refine pw_mv 3 7 hD rfl rfl rfl rfl rfl ?_; refine pw_norm rfl ?_)
            (refine pw_trim 4 hD rfl rfl ?_; refine pw_norm rfl ?_)
            (refine zGo ?_)
            have hel := endW_len s out st i
            have ho2 : out.length ≤ 2 * i := ho
            refine pw_draw [(0, true), (1, true), (2, true), (3, true), (4, true), (5, true), (6, true), (7, false), (8, false)] hmix (by decide +kernel) ?_
            (refine zDgo ?_)
            (refine po_val rfl rfl (v_substr hT rfl rfl rfl rfl rfl (by omega) (by omega) (by omega)) ?_; refine zDn ?_)
            (refine zDgo ?_)
            (refine po_make rfl rfl (fun st' K hK => op_litF hT rfl rfl rfl rfl rfl (by decide) rfl rfl rfl rfl hK) ?_; refine zDn ?_)
            (refine po_step rfl rfl (op_append (b := 16) hT rfl rfl rfl rfl rfl rfl (.inl (Nat.zero_lt_succ _)) rfl rfl (by simp; omega) (fun cap2 _ hcap => ⟨zLok, ?_⟩)); refine zDn ?_)
            (refine zDgo ?_)
            (refine pw_mv 3 4 hD rfl rfl rfl rfl rfl ?_; refine pw_norm rfl ?_)
            (refine pw_trim 4 hD rfl rfl ?_; refine pw_norm rfl ?_)
            (refine zGo ?_)
            refine ⟨(i + 1, endW s out st i ++ [sub s i (i + 1)], none, cap2), ⟨hw', by show i + 1 ≤ _; omega, by intro k hk; (cases hk), by show (endW s out st i ++ [sub s i (i + 1)]).length ≤ 2 * (i + 1); simp; omega⟩, by show _ - (i + 1) < _ - i; omega, ?_, ?_⟩
            · simp only []
              (exact zLe)
            · simp only [List.map_append, List.length_append]
              (exact zLes)
          · have hc4 : ¬ s[i] = 44 := by rintro hc; simp [hc] at h4
            (refine zGo ?_)
            refine pw_cond rfl (fun h5 => ?_) (fun h5 => ?_)
            · have hc5 : s[i] = 61 := by simp at h5; exact UInt8.toNat_inj.1 (show s[i].toNat = 61 by omega)
              rw [if_pos (.inr hc5)] at hw'
              (refine zGo ?_)
              (refine pl_op rfl (op_callA [2, 1, 0, 3] rfl rfl e124 (by decide) rfl rfl rfl zLe zLes (c124 s hl out cap st i hst' (by omega) hoB) (fun r s hq => ?_)); obtain ⟨rfl, cap', rfl⟩ := hq; refine ⟨rfl, rfl, ?_⟩; (refine zNp ?_))
              refine pl_nil ?_
              (refine pw_mv 3 7 hD rfl rfl rfl rfl rfl ?_; refine pw_norm rfl ?_)
              (refine pw_trim 4 hD rfl rfl ?_; refine pw_norm rfl ?_)
              (refine zGo ?_)
              have hel := endW_len s out st i
              have ho2 : out.length ≤ 2 * i := ho
              refine pw_draw [(0, true), (1, true), (2, true), (3, true), (4, true), (5, true), (6, true), (7, false), (8, false)] hmix (by decide +kernel) ?_
              (refine zDgo ?_)
              (refine po_val rfl rfl (v_substr hT rfl rfl rfl rfl rfl (by omega) (by omega) (by omega)) ?_; refine zDn ?_)
              (refine zDgo ?_)
              (refine po_make rfl rfl (fun st' K hK => op_litF hT rfl rfl rfl rfl rfl (by decide) rfl rfl rfl rfl hK) ?_; refine zDn ?_)
              (refine po_step rfl rfl (op_append (b := 16) hT rfl rfl rfl rfl rfl rfl (.inl (Nat.zero_lt_succ _)) rfl rfl (by simp; omega) (fun cap2 _ hcap => ⟨zLok, ?_⟩)); refine zDn ?_)
              (refine zDgo ?_)
              (refine pw_mv 3 4 hD rfl rfl rfl rfl rfl ?_; refine pw_norm rfl ?_)
              (refine pw_trim 4 hD rfl rfl ?_; refine pw_norm rfl ?_)
              (refine zGo ?_)
              refine ⟨(i + 1, endW s out st i ++ [sub s i (i + 1)], none, cap2), ⟨hw', by show i + 1 ≤ _; omega, by intro k hk; (cases hk), by show (endW s out st i ++ [sub s i (i + 1)]).length ≤ 2 * (i + 1); simp; omega⟩, by show _ - (i + 1) < _ - i; omega, ?_, ?_⟩
              · simp only []
                (exact zLe)
              · simp only [List.map_append, List.length_append]
                (exact zLes)
            · have hc5 : ¬ s[i] = 61 := by rintro hc; simp [hc] at h5
              rw [if_neg (by rintro (h | h); exact hc4 h; exact hc5 h)] at hw'
              (refine zGo ?_)
              refine pw_cond rfl (fun h6 => ?_) (fun h6 => ?_)
              · obtain rfl : st = none := by cases st with | none => rfl | some k => exact absurd (of_decide_eq_true h6 : (k : Int) < 0) (by omega)
                (refine zGo ?_)
                exact ⟨(i + 1, out, some i, cap), ⟨hw', by show i + 1 ≤ _; omega, by intro k hk; cases hk; exact Nat.lt_succ_self i, by have : out.length ≤ 2 * i := ho; show out.length ≤ 2 * (i + 1); omega⟩, by show _ - (i + 1) < _ - i; omega, by (exact zLe), by (exact zLes)⟩
              · obtain ⟨k, rfl⟩ : ∃ k, st = some k := by cases st with | none => simp [stI] at h6 | some k => exact ⟨k, rfl⟩
                have hk : k < i := hst k rfl
                have ho3 : out.length ≤ 2 * i := ho
                (refine zGo ?_)
                exact ⟨(i + 1, out, some k, cap), ⟨hw', by show i + 1 ≤ _; omega, by intro k' hk'; cases hk'; exact Nat.lt_succ_of_lt hk, by show out.length ≤ 2 * (i + 1); clear ho; omega⟩, by show _ - (i + 1) < _ - i; omega, by (exact zLe), by (exact zLes)⟩
  · simp only [decide_eq_false_iff_not] at h
    have hie : i = s.length := by have : i ≤ s.length := hi; omega
    subst hie
    have hst' : ∀ k, st = some k → k ≤ s.length := fun k hk => by have : k < s.length := hst k hk; omega
    have hoB : out.length ≤ 2 ^ 41 := by have : out.length ≤ 2 * s.length := ho; omega
    have hw' : endW s out st s.length = words s := by
      have := hw
      simp only [Nat.sub_self, wrun] at this
      exact this
    (refine zGo ?_)
    (refine pl_op rfl (op_callA [2, 1, 0, 3] rfl rfl e124 (by decide) rfl rfl rfl zLe zLes (c124 s hl out cap st s.length hst' (by omega) hoB) (fun r s hq => ?_)); obtain ⟨rfl, cap', rfl⟩ := hq; refine ⟨rfl, rfl, ?_⟩; (refine zNp ?_))
    refine pl_nil ?_
    (refine pw_mv 3 7 hD rfl rfl rfl rfl rfl ?_; refine pw_norm rfl ?_)
    (refine pw_trim 4 hD rfl rfl ?_; refine pw_norm rfl ?_)
    (refine zGo ?_)
    rw [← hw']
    exact ret0 _ _ rfl rfl (.inr (.inr (.inr (.inl ⟨_, _, _, _, _, _, rfl, rfl, rfl, rfl, rfl⟩)))) rfl
end Go.Proofs.YtdehdgbdcfkpbaaGreatDoor
namespace Go.Proofs.YtdehdgbdcfkpbaaGreatDoor
open Go Go.Pw
variable {Gl : Glob}
attribute [local irreducible] PW PWL OpP PCalls PWO
set_option maxHeartbeats 20000000

/-! ### source.Lines -/
structure TLine where
  num : Int
  words : List Str
def eLine (l : TLine) : PV := .agg [.int .i64 l.num, .sl (l.words.map .str)]
/-- What the lines from number i on add to the lines found. -/
def lrun : List Str → Nat → List TLine → List TLine × Int × Int
  | [], _, out => (out, 0, 0)
  | l :: ls, i, out => if !(l.all pbyte) then ([], (i : Int) + 1, 4) else if decide (((words l).length : Int) > 64) then ([], (i : Int) + 1, 3) else if decide (((words l).length : Int) > 0) then lrun ls (i + 1) (out ++ [⟨(i : Int) + 1, words l⟩]) else lrun ls (i + 1) out
def lines (s : Str) : List TLine × Int × Int := if decide ((s.length : Int) > 16384) then ([], 0, 3) else lrun (splitAt 10 s) 0 []
theorem splitB_size (sep : ByteArray) : ∀ (k : Nat) (s p : ByteArray), p ∈ Lib.splitB sep 0 k s → p.size ≤ s.size
  | 0, s, p, h => by simp [Lib.splitB] at h; subst h; exact Nat.le_refl _
  | k + 1, s, p, h => by
    unfold Lib.splitB at h
    split at h
    · simp at h; subst h; exact Nat.le_refl _
    · rcases List.mem_cons.1 h with rfl | h
      · simp [ByteArray.size_extract]; omega
      · have := splitB_size sep k _ p h
        simp [ByteArray.size_extract] at this; omega
theorem splitAt_size {c : UInt8} {s p : Str} (h : p ∈ splitAt c s) : p.length ≤ s.length := by
  obtain ⟨b, hb, rfl⟩ := List.mem_map.1 h
  have := splitB_size _ _ _ _ hb
  rw [bytes_size] at this
  exact this
theorem c60 (hG : GM Gl) (s : Str) : PFun Tryz.prog Gl 60 [.str s] fun r => r = .tup [.sl ((lines s).1.map eLine), .int .i64 (lines s).2.1, .int .i64 (lines s).2.2] := by
  refine PFun.of hT Tryz.func60 rfl fun B hD => ?_
  refine pw_norm rfl ?_
  (refine zGo ?_)
  refine pw_cond rfl (fun h => ?_) (fun h => ?_)
  · (refine zGo ?_)
    refine ret0 _ (.tup [.sl [], .int .i64 0, .int .i64 3]) rfl ?_ (.inr (.inr (.inr (.inr (.inr ⟨_, _, rfl, rfl, .inr (.inr (.inl ⟨rfl, rfl⟩)), .inr (.inl rfl), .inr (.inl rfl), trivial⟩))))) rfl
    have h' : decide ((s.length : Int) > 16384) = true := h
    simp only [lines, h', if_true]
    rfl
  · have h' : decide ((s.length : Int) > 16384) = false := h
    have hsm : s.length ≤ 16384 := by have h'' := h; simp at h''; omega
    (refine zGo ?_)
    (refine pl_op rfl (op_fun (c96 hG s 10 (by omega)) rfl rfl e96 zLe rfl (fun r hr => ?_)); subst hr; refine ⟨rfl, ?_⟩; (refine zNp ?_))
    (refine zGo ?_)
    refine pw_ghost 2 ?_
    refine pw_norm rfl ?_
    generalize hps : splitAt 10 s = ps at *
    have hpl : ps.length ≤ s.length + 1 := by rw [← hps, splitAt_len]; have := List.count_le_length (a := (10 : UInt8)) (l := s); omega
    have hpz : ∀ p ∈ ps, p.length ≤ s.length := fun p hp => splitAt_size (hps ▸ hp)
    refine pw_for hD (fun a : Nat × List TLine × Nat => [(5, .msl 2 0 0 (a.2.1.map eLine).length a.2.2), (15, .int .i64 a.1)]) (fun a => [.arr 2 (a.2.1.map eLine) a.2.2]) (fun a => lrun (ps.drop a.1) a.1 a.2.1 = lrun ps 0 [] ∧ a.1 ≤ ps.length ∧ a.2.1.length ≤ a.1) (fun a => ps.length - a.1) (0, [], 0) ⟨rfl, Nat.zero_le _, Nat.le_refl _⟩ 1 rfl (fun _ => rfl)
      ⟨.inl rfl, trivial⟩ (fun _ => rfl) (fun _ => rfl) (by (exact zLe)) ?_
    rintro ⟨i, out, cap⟩ ⟨hw, hi, ho⟩
    (refine zGo ?_)
    refine pw_cond rfl (fun h1 => ?_) (fun h1 => ?_)
    · simp only [decide_eq_true_eq, List.length_map] at h1
      have hlt : i < ps.length := by omega
      have hz : ps[i].length ≤ s.length := hpz _ (List.getElem_mem hlt)
      have hdr : ps.drop i = ps[i] :: ps.drop (i + 1) := List.drop_eq_getElem_cons hlt
      have hw' := hw
      simp only [hdr, lrun] at hw'
      have hoB : out.length ≤ i := ho
      (refine zGo ?_)
      (refine pl_op rfl (op_of (v_index (p := .str ps[i]) hT rfl rfl rfl rfl (by omega) (by simp [hlt]) rfl) ?_); (refine zNp ?_))
      (refine zGo ?_)
      (refine pl_op rfl (op_fun (c97 ps[i] (by unfold Small; omega)) rfl rfl e97 zLe rfl (fun r hr => ?_)); subst hr; refine ⟨rfl, ?_⟩; (refine zNp ?_))
      (refine zGo ?_)
      refine pw_cond rfl (fun h2 => ?_) (fun h2 => ?_)
      · (refine zGo ?_)
        refine ret0 _ (.tup [.sl [], .int .i64 ((i : Int) + 1), .int .i64 4]) rfl ?_ (.inr (.inr (.inr (.inr (.inr ⟨_, _, rfl, rfl, .inr (.inr (.inl ⟨rfl, rfl⟩)), .inr (.inl rfl), .inr (.inl rfl), trivial⟩))))) rfl
        rw [if_pos h2] at hw'
        simp only [lines, h', Bool.false_eq_true, if_false, hps, ← hw']
        rfl
      · rw [if_neg (by rw [h2]; simp)] at hw'
        (refine zGo ?_)
        (refine pl_op rfl (op_fun (c98 ps[i] (by unfold Small; omega)) rfl rfl e98 zLe rfl (fun r hr => ?_)); subst hr; refine ⟨rfl, ?_⟩; (refine zNp ?_))
        (refine zGo ?_)
        refine pw_cond rfl (fun h3 => ?_) (fun h3 => ?_)
        · have h3' : decide (((words ps[i]).length : Int) > 64) = true := by simpa [List.length_map] using h3
          rw [if_pos h3'] at hw'
          (refine zGo ?_)
          refine ret0 _ (.tup [.sl [], .int .i64 ((i : Int) + 1), .int .i64 3]) rfl ?_ (.inr (.inr (.inr (.inr (.inr ⟨_, _, rfl, rfl, .inr (.inr (.inl ⟨rfl, rfl⟩)), .inr (.inl rfl), .inr (.inl rfl), trivial⟩))))) rfl
          simp only [lines, h', Bool.false_eq_true, if_false, hps, ← hw']
          rfl
        · have h3' : ¬ decide (((words ps[i]).length : Int) > 64) = true := by intro e; simp [List.length_map] at h3 e; omega
          rw [if_neg h3'] at hw'
          (refine zGo ?_)
          refine pw_cond rfl (fun h4 => ?_) (fun h4 => ?_)
          · have h4' : decide (((words ps[i]).length : Int) > 0) = true := by simpa [List.length_map] using h4
            rw [if_pos h4'] at hw'
            (refine zGo ?_)
            (refine pl_append (b := 32) hT hD rfl rfl rfl rfl rfl rfl rfl rfl (.inl (Nat.zero_lt_succ _)) rfl rfl (by simp; omega) (fun cap' _ hcap => ?_); (refine zNp ?_))
            (refine zGo ?_)
            refine ⟨(i + 1, out ++ [⟨(i : Int) + 1, words ps[i]⟩], cap'), ⟨hw', by show i + 1 ≤ _; omega, by show (out ++ [_]).length ≤ i + 1; simp; omega⟩, by show _ - (i + 1) < _ - i; omega, ?_, ?_⟩
            · simp only [List.map_append, List.length_append]
              (exact zLe)
            · simp only [List.map_append]
              (exact zLes)
          · have h4' : ¬ decide (((words ps[i]).length : Int) > 0) = true := by intro e; have e' := of_decide_eq_true e; have h4'' := of_decide_eq_false h4; rw [List.length_map] at h4''; omega
            rw [if_neg h4'] at hw'
            (refine zGo ?_)
            exact ⟨(i + 1, out, cap), ⟨hw', by show i + 1 ≤ _; omega, by show out.length ≤ i + 1; omega⟩, by show _ - (i + 1) < _ - i; omega, by (exact zLe), by (exact zLes)⟩
    · simp only [decide_eq_false_iff_not, List.length_map] at h1
      have hie : i = ps.length := by have : i ≤ ps.length := hi; omega
      subst hie
      have hw' := hw
      simp only [List.drop_length, lrun] at hw'
      (refine zGo ?_)
      refine ret0 _ (.tup [.sl (out.map eLine), .int .i64 0, .int .i64 0]) rfl ?_ (.inr (.inr (.inr (.inr (.inr ⟨_, _, rfl, rfl, .inr (.inr (.inr (.inl ⟨_, _, _, _, _, _, rfl, rfl, rfl, rfl, rfl⟩))), .inr (.inl rfl), .inr (.inl rfl), trivial⟩))))) rfl
      simp only [lines, h', Bool.false_eq_true, if_false, hps, ← hw']
end Go.Proofs.YtdehdgbdcfkpbaaGreatDoor
