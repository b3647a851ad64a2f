/-
  What the lines of a text are like.
-/
import Derived.Test.YtdehdgbdcfkpbaaGreatDoorKC2
namespace Go.Proofs.YtdehdgbdcfkpbaaGreatDoor
open Go Go.Pw
theorem sub_le (s : Str) (a b : Nat) : (sub s a b).length ≤ s.length := by
  unfold sub; simp; omega
theorem endW_each {s : Str} {out : List Str} {st : Option Nat} {n : Nat} (h : ∀ x ∈ out, x.length ≤ s.length) : ∀ x ∈ endW s out st n, x.length ≤ s.length := by
  intro x hx
  unfold endW at hx
  split at hx
  · rcases List.mem_append.1 hx with hx | hx
    · exact h x hx
    · rw [List.mem_singleton] at hx; subst hx; exact sub_le _ _ _
  · exact h x hx
theorem wrun_each (s : Str) : ∀ (n i : Nat) (out : List Str) (st : Option Nat), (∀ x ∈ out, x.length ≤ s.length) → ∀ x ∈ wrun s n i out st, x.length ≤ s.length
  | 0, i, out, st, h => endW_each h
  | n + 1, i, out, st, h => by
    rw [wrun]
    split
    · exact endW_each h
    · split
      · exact endW_each h
      · split
        · exact wrun_each s n _ _ _ (endW_each h)
        · split
          · refine wrun_each s n _ _ _ fun x hx => ?_
            rcases List.mem_append.1 hx with hx | hx
            · exact endW_each h x hx
            · rw [List.mem_singleton] at hx; subst hx; exact sub_le _ _ _
          · exact wrun_each s n _ _ _ h
theorem words_each (s : Str) : ∀ x ∈ words s, x.length ≤ s.length := wrun_each s _ _ _ _ (by simp)
theorem lrun_ok (N : Nat) (hN : N ≤ 16384) : ∀ (ls : List Str) (i : Nat) (out : List TLine), (∀ p ∈ ls, p.length ≤ N) → (∀ x ∈ out, 0 < x.words.length ∧ WOk x.words) →
    (∀ x ∈ (lrun ls i out).1, 0 < x.words.length ∧ WOk x.words) ∧ (lrun ls i out).1.length ≤ out.length + ls.length
  | [], i, out, _, ho => ⟨ho, by simp [lrun]⟩
  | l :: ls, i, out, hp, ho => by
    rw [lrun]
    have hl := hp l (List.mem_cons_self ..)
    have hp' : ∀ p ∈ ls, p.length ≤ N := fun p h => hp p (List.mem_cons_of_mem _ h)
    split
    · exact ⟨by simp, by simp⟩
    · split
      · exact ⟨by simp, by simp⟩
      · rename_i h64
        split
        · rename_i hpos
          have h1 := lrun_ok N hN ls (i + 1) (out ++ [⟨(i : Int) + 1, words l⟩]) hp' (fun x hx => by
            rcases List.mem_append.1 hx with hx | hx
            · exact ho x hx
            · rw [List.mem_singleton] at hx; subst hx
              refine ⟨by simp at hpos; show 0 < (words l).length; omega, ⟨by simp at h64; unfold Small; show (words l).length < _; omega, fun w hw => ?_⟩⟩
              have := words_each l w hw
              omega)
          refine ⟨h1.1, ?_⟩
          have := h1.2
          simp at this ⊢
          omega
        · have h1 := lrun_ok N hN ls (i + 1) out hp' ho
          refine ⟨h1.1, ?_⟩
          have := h1.2
          simp at this ⊢
          omega
theorem lines_ok (s : Str) : LOk (lines s).1 := by
  unfold lines
  split
  · exact ⟨by simp, by simp, by simp⟩
  · rename_i h
    simp only [decide_eq_true_eq] at h
    have h1 := lrun_ok s.length (by omega) (splitAt 10 s) 0 [] (fun p hp => splitAt_size hp) (by simp)
    refine ⟨fun x hx => (h1.1 x hx).1, fun x hx => (h1.1 x hx).2, ?_⟩
    have h2 := h1.2
    rw [splitAt_len] at h2
    have := List.count_le_length (a := (10 : UInt8)) (l := s)
    simp at h2
    omega
end Go.Proofs.YtdehdgbdcfkpbaaGreatDoor
