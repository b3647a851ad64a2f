/-
  Contracts of functions, walked over pure values.
-/
import Derived.Test.YtdehdgbdcfkpbaaGreatDoorKB5
namespace Go.Proofs.YtdehdgbdcfkpbaaGreatDoor
open Go Go.Pw
variable {Gl : Glob}
attribute [local irreducible] PW PWL OpP PCalls PWO
set_option maxHeartbeats 20000000

/-! ### source.Lines -/
structure TLine where
  num : Int
  words : List Str
def eLine (l : TLine) : PV := .agg [.int .i64 l.num, .sl (l.words.map .str)]
/-- What the lines from number i on add to the lines found. -/
def lrun : List Str → Nat → List TLine → List TLine × Int × Int
  | [], _, out => (out, 0, 0)
  | l :: ls, i, out => if !(l.all pbyte) then ([], (i : Int) + 1, 4) else if decide (((words l).length : Int) > 64) then ([], (i : Int) + 1, 3) else if decide (((words l).length : Int) > 0) then lrun ls (i + 1) (out ++ [⟨(i : Int) + 1, words l⟩]) else lrun ls (i + 1) out
def lines (s : Str) : List TLine × Int × Int := if decide ((s.length : Int) > 16384) then ([], 0, 3) else lrun (splitAt 10 s) 0 []
theorem splitB_size (sep : ByteArray) : ∀ (k : Nat) (s p : ByteArray), p ∈ Lib.splitB sep 0 k s → p.size ≤ s.size
  | 0, s, p, h => by simp [Lib.splitB] at h; subst h; exact Nat.le_refl _
  | k + 1, s, p, h => by
    unfold Lib.splitB at h
    split at h
    · simp at h; subst h; exact Nat.le_refl _
    · rcases List.mem_cons.1 h with rfl | h
      · simp [ByteArray.size_extract]; omega
      · have := splitB_size sep k _ p h
        simp [ByteArray.size_extract] at this; omega
theorem splitAt_size {c : UInt8} {s p : Str} (h : p ∈ splitAt c s) : p.length ≤ s.length := by
  obtain ⟨b, hb, rfl⟩ := List.mem_map.1 h
  have := splitB_size _ _ _ _ hb
  rw [bytes_size] at this
  exact this
theorem c60 (hG : GM Gl) (s : Str) : PFun Tryz.prog Gl 60 [.str s] fun r => r = .tup [.sl ((lines s).1.map eLine), .int .i64 (lines s).2.1, .int .i64 (lines s).2.2] := by
  refine PFun.of hT Tryz.func60 rfl fun B hD => ?_
  refine pw_norm rfl ?_
  (refine zGo ?_)
  refine pw_cond rfl (fun h => ?_) (fun h => ?_)
  · (refine zGo ?_)
    refine ret0 _ (.tup [.sl [], .int .i64 0, .int .i64 3]) rfl ?_ (.inr (.inr (.inr (.inr (.inr ⟨_, _, rfl, rfl, .inr (.inr (.inl ⟨rfl, rfl⟩)), .inr (.inl rfl), .inr (.inl rfl), trivial⟩))))) rfl
    have h' : decide ((s.length : Int) > 16384) = true := h
    simp only [lines, h', if_true]
    rfl
  · have h' : decide ((s.length : Int) > 16384) = false := h
    have hsm : s.length ≤ 16384 := by have h'' := h; simp at h''; omega
    (refine zGo ?_)
    (refine pl_op rfl (op_fun (c96 hG s 10 (by omega)) rfl rfl e96 zLe rfl (fun r hr => ?_)); subst hr; refine ⟨rfl, ?_⟩; (refine zNp ?_))
    (refine zGo ?_)
    refine pw_ghost 2 ?_
    refine pw_norm rfl ?_
    generalize hps : splitAt 10 s = ps at *
    have hpl : ps.length ≤ s.length + 1 := by rw [← hps, splitAt_len]; have := List.count_le_length (a := (10 : UInt8)) (l := s); omega
    have hpz : ∀ p ∈ ps, p.length ≤ s.length := fun p hp => splitAt_size (hps ▸ hp)
    refine pw_for hD (fun a : Nat × List TLine × Nat => [(5, .msl 2 0 0 (a.2.1.map eLine).length a.2.2), (15, .int .i64 a.1)]) (fun a => [.arr 2 (a.2.1.map eLine) a.2.2]) (fun a => lrun (ps.drop a.1) a.1 a.2.1 = lrun ps 0 [] ∧ a.1 ≤ ps.length ∧ a.2.1.length ≤ a.1) (fun a => ps.length - a.1) (0, [], 0) ⟨rfl, Nat.zero_le _, Nat.le_refl _⟩ 1 rfl (fun _ => rfl)
      ⟨.inl rfl, trivial⟩ (fun _ => rfl) (fun _ => rfl) (by (exact zLe)) ?_
    rintro ⟨i, out, cap⟩ ⟨hw, hi, ho⟩
    (refine zGo ?_)
    refine pw_cond rfl (fun h1 => ?_) (fun h1 => ?_)
    · simp only [decide_eq_true_eq, List.length_map] at h1
      have hlt : i < ps.length := by omega
      have hz : ps[i].length ≤ s.length := hpz _ (List.getElem_mem hlt)
      have hdr : ps.drop i = ps[i] :: ps.drop (i + 1) := List.drop_eq_getElem_cons hlt
      have hw' := hw
      simp only [hdr, lrun] at hw'
      have hoB : out.length ≤ i := ho
      (refine zGo ?_)
      (refine pl_op rfl (op_of (v_index (p := .str ps[i]) hT rfl rfl rfl rfl (by omega) (by simp [hlt]) rfl) ?_); (refine zNp ?_))
      (refine zGo ?_)
      (refine pl_op rfl (op_fun (c97 ps[i] (by unfold Small; omega)) rfl rfl e97 zLe rfl (fun r hr => ?_)); subst hr; refine ⟨rfl, ?_⟩; (refine zNp ?_))
      (refine zGo ?_)
      refine pw_cond rfl (fun h2 => ?_) (fun h2 => ?_)
      · (refine zGo ?_)
        refine ret0 _ (.tup [.sl [], .int .i64 ((i : Int) + 1), .int .i64 4]) rfl ?_ (.inr (.inr (.inr (.inr (.inr ⟨_, _, rfl, rfl, .inr (.inr (.inl ⟨rfl, rfl⟩)), .inr (.inl rfl), .inr (.inl rfl), trivial⟩))))) rfl
        rw [if_pos h2] at hw'
        simp only [lines, h', Bool.false_eq_true, if_false, hps, ← hw']
        rfl
      · rw [if_neg (by rw [h2]; simp)] at hw'
        (refine zGo ?_)
        (refine pl_op rfl (op_fun (c98 ps[i] (by unfold Small; omega)) rfl rfl e98 zLe rfl (fun r hr => ?_)); subst hr; refine ⟨rfl, ?_⟩; (refine zNp ?_))
        (refine zGo ?_)
        refine pw_cond rfl (fun h3 => ?_) (fun h3 => ?_)
        · have h3' : decide (((words ps[i]).length : Int) > 64) = true := by simpa [List.length_map] using h3
          rw [if_pos h3'] at hw'
          (refine zGo ?_)
          refine ret0 _ (.tup [.sl [], .int .i64 ((i : Int) + 1), .int .i64 3]) rfl ?_ (.inr (.inr (.inr (.inr (.inr ⟨_, _, rfl, rfl, .inr (.inr (.inl ⟨rfl, rfl⟩)), .inr (.inl rfl), .inr (.inl rfl), trivial⟩))))) rfl
          simp only [lines, h', Bool.false_eq_true, if_false, hps, ← hw']
          rfl
        · have h3' : ¬ decide (((words ps[i]).length : Int) > 64) = true := by intro e; simp [List.length_map] at h3 e; omega
          rw [if_neg h3'] at hw'
          (refine zGo ?_)
          refine pw_cond rfl (fun h4 => ?_) (fun h4 => ?_)
          · have h4' : decide (((words ps[i]).length : Int) > 0) = true := by simpa [List.length_map] using h4
            rw [if_pos h4'] at hw'
            (refine zGo ?_)
            (refine pl_append (b := 32) hT hD rfl rfl rfl rfl rfl rfl rfl rfl (.inl (Nat.zero_lt_succ _)) rfl rfl (by simp; omega) (fun cap' _ hcap => ?_); (refine zNp ?_))
            (refine zGo ?_)
            refine ⟨(i + 1, out ++ [⟨(i : Int) + 1, words ps[i]⟩], cap'), ⟨hw', by show i + 1 ≤ _; omega, by show (out ++ [_]).length ≤ i + 1; simp; omega⟩, by show _ - (i + 1) < _ - i; omega, ?_, ?_⟩
            · simp only [List.map_append, List.length_append]
              (exact zLe)
            · simp only [List.map_append]
              (exact zLes)
          · have h4' : ¬ decide (((words ps[i]).length : Int) > 0) = true := by intro e; have e' := of_decide_eq_true e; have h4'' := of_decide_eq_false h4; rw [List.length_map] at h4''; omega
            rw [if_neg h4'] at hw'
            (refine zGo ?_)
            exact ⟨(i + 1, out, cap), ⟨hw', by show i + 1 ≤ _; omega, by show out.length ≤ i + 1; omega⟩, by show _ - (i + 1) < _ - i; omega, by (exact zLe), by (exact zLes)⟩
    · simp only [decide_eq_false_iff_not, List.length_map] at h1
      have hie : i = ps.length := by have : i ≤ ps.length := hi; omega
      subst hie
      have hw' := hw
      simp only [List.drop_length, lrun] at hw'
      (refine zGo ?_)
      refine ret0 _ (.tup [.sl (out.map eLine), .int .i64 0, .int .i64 0]) rfl ?_ (.inr (.inr (.inr (.inr (.inr ⟨_, _, rfl, rfl, .inr (.inr (.inr (.inl ⟨_, _, _, _, _, _, rfl, rfl, rfl, rfl, rfl⟩))), .inr (.inl rfl), .inr (.inl rfl), trivial⟩))))) rfl
      simp only [lines, h', Bool.false_eq_true, if_false, hps, ← hw']
end Go.Proofs.YtdehdgbdcfkpbaaGreatDoor
