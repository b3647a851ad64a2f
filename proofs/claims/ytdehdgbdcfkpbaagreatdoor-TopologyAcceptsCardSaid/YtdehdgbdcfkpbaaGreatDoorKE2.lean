/-
  Contracts of functions, walked over pure values.
-/
import Derived.Test.YtdehdgbdcfkpbaaGreatDoorKP1
namespace Go.Proofs.YtdehdgbdcfkpbaaGreatDoor
open Go Go.Pw
variable {Gl : Glob}
attribute [local irreducible] PW PWL OpP PCalls PWO
set_option maxHeartbeats 20000000

/-! ### the reference's words -/
theorem isSep_eq (b : UInt8) : (((b.toNat : Int) != 44) && ((b.toNat : Int) != 61)) = !isSep b := by
  unfold isSep
  rw [← byte_eq b 44, ← byte_eq b 61, Bool.not_or]; rfl
theorem isWord_eq (b : UInt8) : ((!isBlank b && ((b.toNat : Int) != 44)) && ((b.toNat : Int) != 61)) = isWord b := by
  rw [Bool.and_assoc, isSep_eq]; rfl
theorem c59 (s : Str) (hl : Small s) : PFun Tryz.prog Gl 59 [.str s] fun r => r = .sl ((rwords s).map .str) := by
  refine PFun.of hT Tryz.func59 rfl fun B hD => ?_
  refine pw_norm rfl ?_
  unfold Small at hl
  (refine zGo ?_)
  refine pw_ghost 1 ?_
  refine pw_norm rfl ?_
  refine pw_for hD (fun a : Nat × List Str × Nat => [(3, .msl 1 0 0 (a.2.1.map PV.str).length a.2.2), (4, .int .i64 a.1)]) (fun a => [.arr 1 (a.2.1.map .str) a.2.2])
    (fun a => a.2.1.length ≤ a.1 ∧ a.1 ≤ s.length ∧ a.2.1 ++ rwords (s.drop a.1) = rwords s) (fun a => s.length - a.1) (0, [], 0)
    ⟨Nat.zero_le _, Nat.zero_le _, rfl⟩ 1 rfl (fun _ => rfl) ⟨.inl rfl, trivial⟩ (fun _ => rfl) (fun _ => rfl) (by (exact zLe)) ?_
  rintro ⟨i, out, cap⟩ ⟨ho, hi, hw⟩
  dsimp only at ho hi hw ⊢
  (refine zGo ?_)
  refine pw_cond rfl (fun h1 => ?_) (fun h1 => ?_)
  · simp only [decide_eq_true_eq] at h1
    have hlt : i < s.length := by omega
    have hg := get_getD hlt
    rw [drop_getD hlt, rwords_cons] at hw
    generalize s.getD i 0 = c at hg hw
    (refine zGo ?_)
    (refine pl_op rfl (op_of (v_indexs (c := c) hT rfl rfl rfl rfl (by omega) (hg)) ?_); (refine zNp ?_))
    (refine pl_op rfl (op_fun (c95 c) rfl rfl e95 zLe rfl (fun r hr => ?_)); subst hr; refine ⟨rfl, ?_⟩; (refine zNp ?_))
    (refine zGo ?_)
    refine pw_cond rfl (fun h2 => ?_) (fun h2 => ?_)
    · rw [h2] at hw
      (refine zGo ?_)
      exact ⟨(i + 1, out, cap), ⟨by show out.length ≤ i + 1; omega, hlt, hw⟩, by show _ - (i + 1) < _ - i; omega, by (exact zLe), by (exact zLes)⟩
    rw [h2] at hw
    dsimp only at hw
    refine pw_joinY hD (fun n : Nat => 1 ≤ n ∧ i + n ≤ s.length ∧ (out ++ [sub s i (i + n)]) ++ rwords (s.drop (i + n)) = rwords s) (fun n => [(5, .int .i64 n)]) (fun _ => [.arr 1 (out.map .str) cap]) 1 rfl (fun _ => rfl) (fun _ => rfl) (fun _ => rfl) (fun _ _ h => h) ?_ ?_
    · (refine zGo ?_)
      (refine pl_op rfl (op_of (v_indexs (c := c) hT rfl rfl rfl rfl (by omega) (hg)) ?_); (refine zNp ?_))
      (refine zGo ?_)
      (refine pl_and 5 22 27 ((c.toNat : Int) != 61) rfl rfl rfl (fun hb => ?_) (fun hb => ?_) ?_; (focus ((refine zNp ?_); (refine zGo ?_); (refine pl_on rfl rfl (op_of (v_indexs (c := c) hT rfl rfl rfl rfl (by omega) (hg)) ?_); (refine zNp ?_)); (refine zGo ?_); exact ⟨by (exact zLe), StLe.refl _⟩)); (focus ((refine zNp ?_); (refine zGo ?_); exact ⟨by (exact zLe), StLe.refl _⟩)); (refine zNp ?_); (refine zGo ?_))
      refine pw_cond rfl (fun h3 => ?_) (fun h3 => ?_)
      · have h4 : isSep c = false := by have := isSep_eq c; rw [show (((c.toNat : Int) != 44) && ((c.toNat : Int) != 61)) = true from h3] at this; simpa using this.symm
        rw [h4] at hw
        dsimp only at hw
        (refine zGo ?_)
        refine pw_for hD (fun n : Nat => [(5, .int .i64 n)]) (fun _ => [.arr 1 (out.map .str) cap]) (fun n => 1 ≤ n ∧ i + n ≤ s.length ∧ (s.drop (i + 1)).takeWhile isWord = sub s (i + 1) (i + n) ++ (s.drop (i + n)).takeWhile isWord ∧ (s.drop (i + 1)).dropWhile isWord = (s.drop (i + n)).dropWhile isWord) (fun n => s.length - (i + n)) 1
          ⟨Nat.le_refl _, hlt, by simp [sub_nil], rfl⟩ 1 rfl (fun _ => rfl) ⟨.inl rfl, trivial⟩ (fun _ => rfl) (fun _ => rfl) (by (exact zLe)) ?_
        rintro n ⟨hn, hin, e1, e2⟩
        (refine zGo ?_)
        have hge : i + n < s.length → s[((i : Int) + (n : Int)).toNat]? = some (s.getD (i + n) 0) := fun h => by rw [show ((i : Int) + (n : Int)).toNat = i + n by omega]; exact get_getD h
        refine pl_and 8 34 42 (!isBlank (s.getD (i + n) 0)) rfl rfl rfl (fun hb => ?_) (fun hb => ?_) ?_
        · refine pl_norm rfl ?_
          have hb' := of_decide_eq_true hb
          (refine zGo ?_)
          (refine pl_on rfl rfl (op_of (v_indexs (c := s.getD (i + n) 0) hT rfl rfl rfl rfl (by omega) (hge (by omega))) ?_); (refine zNp ?_))
          (refine zGo ?_)
          (refine pl_on rfl rfl (op_fun (c95 (s.getD (i + n) 0)) rfl rfl e95 zLe rfl (fun r hr => ?_)); subst hr; refine ⟨rfl, ?_⟩; (refine zNp ?_))
          (refine zGo ?_)
          exact ⟨by (exact zLe), StLe.refl _⟩
        · refine pl_norm rfl ?_
          (refine zGo ?_)
          exact ⟨by (exact zLe), StLe.refl _⟩
        refine pl_norm rfl ?_
        (refine zGo ?_)
        (refine pl_and 7 43 50 (((s.getD (i + n) 0).toNat : Int) != 44) rfl rfl rfl (fun hb => ?_) (fun hb => ?_) ?_; (focus ((refine zNp ?_); (refine zGo ?_); have hb' := of_decide_eq_true (Bool.and_eq_true_iff.1 hb).1; (refine pl_on rfl rfl (op_of (v_indexs (c := s.getD (i + n) 0) hT rfl rfl rfl rfl (by omega) (hge (by omega))) ?_); (refine zNp ?_)); (refine zGo ?_); exact ⟨by (exact zLe), StLe.refl _⟩)); (focus ((refine zNp ?_); (refine zGo ?_); exact ⟨by (exact zLe), StLe.refl _⟩)); (refine zNp ?_); (refine zGo ?_))
        (refine pl_and 7 51 58 (((s.getD (i + n) 0).toNat : Int) != 61) rfl rfl rfl (fun hb => ?_) (fun hb => ?_) ?_; (focus ((refine zNp ?_); (refine zGo ?_); have hb' := of_decide_eq_true (Bool.and_eq_true_iff.1 (Bool.and_eq_true_iff.1 hb).1).1; (refine pl_on rfl rfl (op_of (v_indexs (c := s.getD (i + n) 0) hT rfl rfl rfl rfl (by omega) (hge (by omega))) ?_); (refine zNp ?_)); (refine zGo ?_); exact ⟨by (exact zLe), StLe.refl _⟩)); (focus ((refine zNp ?_); (refine zGo ?_); exact ⟨by (exact zLe), StLe.refl _⟩)); (refine zNp ?_); (refine zGo ?_))
        refine pw_cond rfl (fun h5 => ?_) (fun h5 => ?_)
        · have h6 : decide ((i : Int) + (n : Int) < (s.length : Int)) = true ∧ isWord (s.getD (i + n) 0) = true := by
            rw [← isWord_eq, ← Bool.and_eq_true_iff, ← Bool.and_assoc, ← Bool.and_assoc]; exact h5
          have hb' := of_decide_eq_true h6.1
          have hlt2 : i + n < s.length := by omega
          (refine zGo ?_)
          refine ⟨n + 1, ⟨by omega, by omega, ?_, ?_⟩, by omega, by (exact zLe), by (exact zLes)⟩
          · rw [e1, drop_getD hlt2, List.takeWhile_cons, h6.2, ← Nat.add_assoc, sub_snoc (get_getD hlt2) (by omega)]; simp
          · rw [e2, drop_getD hlt2, List.dropWhile_cons, h6.2, Nat.add_assoc]; simp
        · have h6 : (s.drop (i + n)).takeWhile isWord = [] ∧ (s.drop (i + n)).dropWhile isWord = s.drop (i + n) := by
            by_cases hlt2 : i + n < s.length
            · have h7 : isWord (s.getD (i + n) 0) = false := by
                rw [← isWord_eq]
                have h5' : (((decide ((i : Int) + (n : Int) < (s.length : Int)) && !isBlank (s.getD (i + n) 0)) && (((s.getD (i + n) 0).toNat : Int) != 44)) && (((s.getD (i + n) 0).toNat : Int) != 61)) = false := h5
                rw [show decide ((i : Int) + (n : Int) < (s.length : Int)) = true by simp; omega, Bool.true_and] at h5'
                exact h5'
              rw [drop_getD hlt2, List.takeWhile_cons, List.dropWhile_cons, h7]; simp
            · rw [List.drop_eq_nil_of_le (by omega)]; simp
          (refine zGo ?_)
          refine ⟨n, ⟨hn, hin, ?_⟩, by (exact zLe), by (exact zLes)⟩
          rw [e1, e2, h6.1, h6.2] at hw
          rw [← hw]
          have : sub s i (i + n) = c :: sub s (i + 1) (i + n) := by
            unfold sub
            rw [List.drop_eq_getElem_cons (by simp; omega), List.getElem_take]
            have := List.getElem?_eq_getElem hlt
            rw [hg] at this
            rw [Option.some.inj this]
          simp [this]
      · have h4 : isSep c = true := by have := isSep_eq c; rw [show (((c.toNat : Int) != 44) && ((c.toNat : Int) != 61)) = false from h3] at this; simpa using this.symm
        rw [h4] at hw
        dsimp only at hw
        (refine zGo ?_)
        refine ⟨1, ⟨Nat.le_refl _, hlt, ?_⟩, by (exact zLe), by (exact zLes)⟩
        rw [← hw, sub_snoc hg (Nat.le_refl _), sub_nil]; simp
    rintro n ⟨hn, hin, hw2⟩
    (refine zGo ?_)
    (refine pl_op rfl (op_of (v_substr hT rfl rfl rfl rfl rfl (by omega) (by omega) (by omega)) ?_); (refine zNp ?_))
    rw [show ((i : Int) + (n : Int)).toNat = i + n by omega]
    (refine zGo ?_)
    (refine pl_append (b := 16) hT hD rfl rfl rfl rfl rfl rfl rfl rfl (.inl (Nat.zero_lt_succ _)) rfl rfl (by simp; omega) (fun cap' _ hcap => ?_); (refine zNp ?_))
    (refine zGo ?_)
    refine ⟨(i + n, out ++ [sub s i (i + n)], cap'), ⟨by show (out ++ [_]).length ≤ i + n; simp; omega, hin, hw2⟩, by show _ - (i + n) < _ - i; omega, ?_, ?_⟩
    · simp only [List.map_append, List.length_append]
      (exact zLe)
    · simp only [List.map_append]
      (exact zLes)
  · simp only [decide_eq_false_iff_not] at h1
    have hie : i = s.length := by omega
    subst hie
    have hw' : out = rwords s := by rw [List.drop_length] at hw; rw [← hw]; simp [rwords, rw1]
    subst hw'
    (refine zGo ?_)
    exact ret0 _ _ rfl rfl (.inr (.inr (.inr (.inl ⟨_, _, _, _, _, _, rfl, rfl, rfl, rfl, rfl⟩)))) rfl
end Go.Proofs.YtdehdgbdcfkpbaaGreatDoor
namespace Go.Proofs.YtdehdgbdcfkpbaaGreatDoor
open Go Go.Pw
variable {Gl : Glob}
attribute [local irreducible] PW PWL OpP PCalls PWO
set_option maxHeartbeats 20000000

/-! ### the reference's Lines -/
theorem str_at0 (w : List Str) (h : 0 < w.length) : (w.map PV.str)[0]? = some (.str (w.getD 0 [])) := by
  rw [List.getElem?_map, List.getD, List.getElem?_eq_getElem h]; rfl
theorem parts_zero (c : UInt8) (s : Str) : ((parts c s).map PV.str)[0]? = some (.str ((parts c s).getD 0 [])) :=
  str_at0 (parts c s) (by rw [parts_len]; omega)
theorem words_parts (p : Str) : rwords ((parts 35 p).getD 0 []) = words p := by
  rw [parts_head, words_rw]; rfl
theorem c25 (s : Str) : PFun Tryz.prog Gl 25 [.str s] fun r => r = .tup [.sl ((lines s).1.map eLine), .int .i64 (lines s).2.1, .int .i64 (lines s).2.2] := by
  refine PFun.of hT Tryz.func25 rfl fun B hD => ?_
  refine pw_norm rfl ?_
  (refine zGo ?_)
  refine pw_cond rfl (fun h => ?_) (fun h => ?_)
  · (refine zGo ?_)
    refine ret0 _ (.tup [.sl [], .int .i64 0, .int .i64 3]) rfl ?_ (.inr (.inr (.inr (.inr (.inr ⟨_, _, rfl, rfl, .inr (.inr (.inl ⟨rfl, rfl⟩)), .inr (.inl rfl), .inr (.inl rfl), trivial⟩))))) rfl
    have h' : decide ((s.length : Int) > 16384) = true := h
    simp only [lines, h', if_true]
    rfl
  · have h' : decide ((s.length : Int) > 16384) = false := h
    have hsm : s.length ≤ 16384 := by have h'' := h; simp at h''; omega
    (refine zGo ?_)
    (refine pl_op rfl (op_fun (c58 s 10 (by unfold Small; omega)) rfl rfl e58 zLe rfl (fun r hr => ?_)); subst hr; refine ⟨rfl, ?_⟩; (refine zNp ?_))
    (refine zGo ?_)
    refine pw_ghost 2 ?_
    refine pw_norm rfl ?_
    have hps0 := splitAt_parts 10 s
    generalize hps : parts 10 s = ps at *
    have hpl : ps.length ≤ s.length + 1 := by rw [← hps, parts_len]; have := List.count_le_length (a := (10 : UInt8)) (l := s); omega
    have hpz : ∀ p ∈ ps, p.length ≤ s.length := fun p hp => part_len' 10 s p (hps ▸ hp)
    refine pw_for hD (fun a : Nat × List TLine × Nat => [(5, .msl 2 0 0 (a.2.1.map eLine).length a.2.2), (7, .int .i64 a.1)]) (fun a => [.arr 2 (a.2.1.map eLine) a.2.2]) (fun a => lrun (ps.drop a.1) a.1 a.2.1 = lrun ps 0 [] ∧ a.1 ≤ ps.length ∧ a.2.1.length ≤ a.1) (fun a => ps.length - a.1) (0, [], 0) ⟨rfl, Nat.zero_le _, Nat.le_refl _⟩ 1 rfl (fun _ => rfl)
      ⟨.inl rfl, trivial⟩ (fun _ => rfl) (fun _ => rfl) (by (exact zLe)) ?_
    rintro ⟨i, out, cap⟩ ⟨hw, hi, ho⟩
    dsimp only at hw hi ho ⊢
    (refine zGo ?_)
    refine pw_cond rfl (fun h1 => ?_) (fun h1 => ?_)
    · simp only [decide_eq_true_eq, List.length_map] at h1
      have hlt : i < ps.length := by omega
      have hz : ps[i].length ≤ s.length := hpz _ (List.getElem_mem hlt)
      have hdr : ps.drop i = ps[i] :: ps.drop (i + 1) := List.drop_eq_getElem_cons hlt
      simp only [hdr, lrun] at hw
      have hp : (ps.map PV.str)[i]? = some (.str ps[i]) := by simp [hlt]
      generalize ps[i] = p at hp hz hw
      (refine zGo ?_)
      refine pw_for hD (fun k : Nat => [(8, .int .i64 k)]) (fun _ => [.arr 2 (out.map eLine) cap]) (fun k => k ≤ p.length ∧ (p.drop k).all pbyte = p.all pbyte) (fun k => p.length - k) 0 ⟨Nat.zero_le _, rfl⟩ 1 rfl (fun _ => rfl) ⟨.inl rfl, trivial⟩ (fun _ => rfl) (fun _ => rfl) (by (exact zLe)) ?_
      rintro k ⟨hk, hb⟩
      (refine zGo ?_)
      (refine pl_op rfl (op_of (v_index (p := .str p) hT rfl rfl rfl rfl (by omega) (hp) rfl) ?_); (refine zNp ?_))
      (refine zGo ?_)
      refine pw_cond rfl (fun h2 => ?_) (fun h2 => ?_)
      · simp only [decide_eq_true_eq] at h2
        have hkl : k < p.length := by omega
        have hg := get_getD hkl
        rw [drop_getD hkl, List.all_cons] at hb
        generalize p.getD k 0 = c at hg hb
        (refine zGo ?_)
        (refine pl_op rfl (op_of (v_index (p := .str p) hT rfl rfl rfl rfl (by omega) (hp) rfl) ?_); (refine zNp ?_))
        (refine zGo ?_)
        (refine pl_op rfl (op_of (v_indexs (c := c) hT rfl rfl rfl rfl (by omega) (hg)) ?_); (refine zNp ?_))
        (refine zGo ?_)
        refine pl_and 17 37 54 (decide ((c.toNat : Int) < 32) || decide ((c.toNat : Int) > 126)) rfl rfl rfl (fun _ => ?_) (fun _ => ?_) ?_
        · refine pl_norm rfl ?_
          (refine zGo ?_)
          (refine pl_on rfl rfl (op_of (v_index (p := .str p) hT rfl rfl rfl rfl (by omega) (hp) rfl) ?_); (refine zNp ?_))
          (refine zGo ?_)
          (refine pl_on rfl rfl (op_of (v_indexs (c := c) hT rfl rfl rfl rfl (by omega) (hg)) ?_); (refine zNp ?_))
          (refine zGo ?_)
          refine pl_or 8 45 53 (decide ((c.toNat : Int) > 126)) rfl rfl rfl (fun _ => ?_) (fun _ => ?_) ?_
          · refine pl_norm rfl ?_
            (refine zGo ?_)
            exact ⟨by (exact zLe), StLe.refl _⟩
          · refine pl_norm rfl ?_
            (refine zGo ?_)
            (refine pl_on rfl rfl (op_of (v_index (p := .str p) hT rfl rfl rfl rfl (by omega) (hp) rfl) ?_); (refine zNp ?_))
            (refine zGo ?_)
            (refine pl_on rfl rfl (op_of (v_indexs (c := c) hT rfl rfl rfl rfl (by omega) (hg)) ?_); (refine zNp ?_))
            (refine zGo ?_)
            exact ⟨by (exact zLe), StLe.refl _⟩
          refine pl_norm rfl ?_
          (refine zGo ?_)
          exact ⟨by (exact zLe), StLe.refl _⟩
        · refine pl_norm rfl ?_
          (refine zGo ?_)
          exact ⟨by (exact zLe), StLe.refl _⟩
        refine pl_norm rfl ?_
        (refine zGo ?_)
        refine pw_cond rfl (fun h3 => ?_) (fun h3 => ?_)
        · (refine zGo ?_)
          refine ret0 _ (.tup [.sl [], .int .i64 ((i : Int) + 1), .int .i64 4]) rfl ?_ (.inr (.inr (.inr (.inr (.inr ⟨_, _, rfl, rfl, .inr (.inr (.inl ⟨rfl, rfl⟩)), .inr (.inl rfl), .inr (.inl rfl), trivial⟩))))) rfl
          have hc : pbyte c = false := by simp only [pbyte, h3]; rfl
          rw [hc, Bool.false_and] at hb
          rw [if_pos (by rw [← hb]; rfl)] at hw
          simp only [lines, h', Bool.false_eq_true, if_false, hps0, ← hw]
          rfl
        · have hc : pbyte c = true := by simp only [pbyte, h3]; rfl
          rw [hc, Bool.true_and] at hb
          (refine zGo ?_)
          exact ⟨k + 1, ⟨hkl, hb⟩, by omega, by (exact zLe), by (exact zLes)⟩
      simp only [decide_eq_false_iff_not] at h2
      have hke : k = p.length := by omega
      rw [hke, List.drop_length, List.all_nil] at hb
      rw [if_neg (by rw [← hb]; simp)] at hw
      clear h2 hke
      (refine zGo ?_)
      (refine pl_op rfl (op_of (v_index (p := .str p) hT rfl rfl rfl rfl (by omega) (hp) rfl) ?_); (refine zNp ?_))
      (refine zGo ?_)
      (refine pl_op rfl (op_fun (c58 p 35 (by unfold Small; omega)) rfl rfl e58 zLe rfl (fun r hr => ?_)); subst hr; refine ⟨rfl, ?_⟩; (refine zNp ?_))
      (refine pl_op rfl (op_of (v_index (p := .str ((parts 35 p).getD 0 [])) hT rfl rfl rfl rfl (by omega) (parts_zero 35 p) rfl) ?_); (refine zNp ?_))
      (refine zGo ?_)
      have hsp : Small ((parts 35 p).getD 0 []) := by
        unfold Small
        rw [parts_head]
        have := (List.takeWhile_prefix (fun x => !(x == (35 : UInt8))) (l := p)).length_le
        omega
      (refine pl_op rfl (op_fun (c59 ((parts 35 p).getD 0 []) hsp) rfl rfl e59 zLe rfl (fun r hr => ?_)); subst hr; refine ⟨rfl, ?_⟩; (refine zNp ?_))
      rw [words_parts]
      (refine zGo ?_)
      refine pw_cond rfl (fun h3 => ?_) (fun h3 => ?_)
      · have h3' : decide (((words p).length : Int) > 64) = true := by simpa [List.length_map] using h3
        rw [if_pos h3'] at hw
        (refine zGo ?_)
        refine ret0 _ (.tup [.sl [], .int .i64 ((i : Int) + 1), .int .i64 3]) rfl ?_ (.inr (.inr (.inr (.inr (.inr ⟨_, _, rfl, rfl, .inr (.inr (.inl ⟨rfl, rfl⟩)), .inr (.inl rfl), .inr (.inl rfl), trivial⟩))))) rfl
        simp only [lines, h', Bool.false_eq_true, if_false, hps0, ← hw]
        rfl
      · have h3' : ¬ decide (((words p).length : Int) > 64) = true := by intro e; simp [List.length_map] at h3 e; omega
        rw [if_neg h3'] at hw
        (refine zGo ?_)
        refine pw_cond rfl (fun h4 => ?_) (fun h4 => ?_)
        · have h4' : decide (((words p).length : Int) > 0) = true := by simpa [List.length_map] using h4
          rw [if_pos h4'] at hw
          (refine zGo ?_)
          (refine pl_append (b := 32) hT hD rfl rfl rfl rfl rfl rfl rfl rfl (.inl (Nat.zero_lt_succ _)) rfl rfl (by simp; omega) (fun cap' _ hcap => ?_); (refine zNp ?_))
          (refine zGo ?_)
          refine ⟨(i + 1, out ++ [⟨(i : Int) + 1, words p⟩], cap'), ⟨hw, by show i + 1 ≤ _; omega, by show (out ++ [_]).length ≤ i + 1; simp; omega⟩, by show _ - (i + 1) < _ - i; omega, ?_, ?_⟩
          · simp only [List.map_append, List.length_append]
            (exact zLe)
          · simp only [List.map_append]
            (exact zLes)
        · have h4' : ¬ decide (((words p).length : Int) > 0) = true := by intro e; have e' := of_decide_eq_true e; have h4'' := of_decide_eq_false h4; rw [List.length_map] at h4''; omega
          rw [if_neg h4'] at hw
          (refine zGo ?_)
          exact ⟨(i + 1, out, cap), ⟨hw, by show i + 1 ≤ _; omega, by show out.length ≤ i + 1; omega⟩, by show _ - (i + 1) < _ - i; omega, by (exact zLe), by (exact zLes)⟩
    · simp only [decide_eq_false_iff_not, List.length_map] at h1
      have hie : i = ps.length := by omega
      subst hie
      simp only [List.drop_length, lrun] at hw
      (refine zGo ?_)
      refine ret0 _ (.tup [.sl (out.map eLine), .int .i64 0, .int .i64 0]) rfl ?_ (.inr (.inr (.inr (.inr (.inr ⟨_, _, rfl, rfl, .inr (.inr (.inr (.inl ⟨_, _, _, _, _, _, rfl, rfl, rfl, rfl, rfl⟩))), .inr (.inl rfl), .inr (.inl rfl), trivial⟩))))) rfl
      simp only [lines, h', Bool.false_eq_true, if_false, hps0, ← hw]
end Go.Proofs.YtdehdgbdcfkpbaaGreatDoor
