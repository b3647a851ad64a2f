/-
 Contracts of functions, walked over pure values.
-/
import Derived.Test.YtkaobkjcjodffaaGreatDoorBM11
import Derived.Test.YtkaobkjcjodffaaGreatDoorBK44
import Derived.Test.YtkaobkjcjodffaaGreatDoorBK40
import Derived.Test.YtkaobkjcjodffaaGreatDoorBK26
import Derived.Test.YtkaobkjcjodffaaGreatDoorBK37
set_option maxHeartbeats 20000000
set_option maxRecDepth 100000
namespace Go.Proofs.YtkaobkjcjodffaaGreatDoor
open Go Go.Pw
variable {Gl : Glob}
attribute [local irreducible] PW PWL OpP PCalls PWO iParse iValid iFormat PWT bothT
theorem c3 (hG : GM Gl) (hD' : GD Gl) (l : List Int) (hl : Tp l) (s : Str) : PFun Tryz.prog Gl 3 [.sl (l.map eInt), .str s] fun r => r = .bool true := by
 (refine PFun.of hT Tryz.func3 rfl fun B hD => ?_; refine pw_norm rfl ?_)
 (repeat' (first | refine zS ?_ | refine zq5 ?_ | refine zq6 ?_))
 (refine pl_op rfl (zCl [] e10 (c10 l) (fun r s hq => ?_)); obtain ⟨rfl, rfl⟩ := hq; refine ⟨rfl, rfl, ?_⟩; (refine zNp ?_))
 (repeat' (first | refine zS ?_ | refine zq5 ?_ | refine zq6 ?_))
 refine zNq ?_
 refine pw_for hD (fun a : Nat × Nat => [(6, .int .i64 a.1)]) (fun a => [tape l a.2]) (fun a => a.1 ≤ 4 ∧ a.2 ≤ l.length) (fun a => 4 - a.1) (0, 0) ⟨Nat.zero_le _, Nat.zero_le _⟩ 1 rfl (fun _ => rfl) zLes (fun _ => rfl) (fun _ => rfl) zLe ?_
 rintro ⟨i, j⟩ ⟨hi, hj⟩
 dsimp only at hi hj ⊢
 refine zNq ?_
 (repeat' (first | refine zS ?_ | refine zq5 ?_ | refine zq6 ?_))
 refine zT ?_ ?_ <;> intro h <;> refine zNq ?_
 ·(repeat' (first | refine zS ?_ | refine zq5 ?_ | refine zq6 ?_))
  (refine pl_op rfl (zCl [0] e13 (c12 l hl j hj 3 (by decide) (by decide)) (fun r s hq => ?_)); obtain ⟨j1, T, c, ⟨m, hmn, hg⟩, hj1, rfl, rfl⟩ := hq; refine ⟨rfl, rfl, ?_⟩; (refine zNp ?_))
  have hT1 := hg.el
  have hT2 := hg.dl
  have hT3 := hg.n6
  refine pl_frzV (fun i => Nat.ble 1 i) 20 (y := eTopo T) rfl (by (refine .inr (.inr (.inr (.inr (.inl ⟨_, _, rfl, rfl, ?_⟩)))); (repeat (first | exact True.intro | refine ⟨.inr (.inl rfl), ?_⟩ | refine ⟨.inr (.inr (.inl ⟨rfl, rfl⟩)), ?_⟩ | refine ⟨.inr (.inr (.inr (.inl ⟨_, _, _, _, _, _, rfl, rfl, rfl, rfl, rfl⟩))), ?_⟩ | refine ⟨.inr (.inr (.inr (.inl ⟨_, _, _, _, _, _, rfl, rfl, rfl, (by simp only [List.length_map, List.length_set, List.length_append, List.length_cons, List.length_nil]), rfl⟩))), ?_⟩)))) ?_
  (refine zNp ?_)
  (refine pl_op rfl (zCl [0] e12 (c_gIntent l hl j1 hj1 T 3 (by decide) (by omega) (by omega) hg.epfx) (fun r s hq => ?_)); obtain ⟨j2, ⟨I, hI, rfl⟩, hj2, rfl⟩ := hq; refine ⟨rfl, rfl, ?_⟩; (refine zNp ?_))
  (refine pl_op rfl (op_fun (c_rFormat16 I (hI.big (by decide)) hI.iin) rfl rfl e11 zLe rfl (fun r hr => ?_)); subst hr; refine ⟨rfl, ?_⟩; (refine zNp ?_))
  have hx := iFormat_len hI.iin.toIIn
  generalize iFormat I = X at hx ⊢
  obtain ⟨x, e⟩ := X
  dsimp only at hx ⊢
  (repeat' (first | refine zS ?_ | refine zq5 ?_ | refine zq6 ?_))
  (refine pl_on rfl rfl (zCl [0] e15 (c16 l hl j2 hj2 x (by unfold Small; omega)) (fun r s hq => ?_)); obtain ⟨j3, ⟨u1, hu1, rfl⟩, hj3, rfl⟩ := hq; refine ⟨rfl, rfl, ?_⟩; (refine zNp ?_))
  (repeat' (first | refine zS ?_ | refine zq5 ?_ | refine zq6 ?_))
  (refine pl_on rfl rfl (zCl [0] e16 (c_gLine l hl j3 hj3) (fun r s hq => ?_)); obtain ⟨j4, ⟨s1, hs1, rfl⟩, hj4, rfl⟩ := hq; refine ⟨rfl, rfl, ?_⟩; (refine zNp ?_))
  (repeat' (first | refine zS ?_ | refine zq5 ?_ | refine zq6 ?_))
  (refine pl_on rfl rfl (zCl [0] e16 (c_gLine l hl j4 hj4) (fun r s hq => ?_)); obtain ⟨j5, ⟨s2, hs2, rfl⟩, hj5, rfl⟩ := hq; refine ⟨rfl, rfl, ?_⟩; (refine zNp ?_))
  (repeat' (first | refine zS ?_ | refine zq5 ?_ | refine zq6 ?_))
  (refine pl_on rfl rfl (zCl [0] e16 (c_gLine l hl j5 hj5) (fun r s hq => ?_)); obtain ⟨j6, ⟨s3, hs3, rfl⟩, hj6, rfl⟩ := hq; refine ⟨rfl, rfl, ?_⟩; (refine zNp ?_))
  (repeat' (first | refine zS ?_ | refine zq5 ?_ | refine zq6 ?_))
  (refine pl_on rfl rfl (zCl [0] e16 (c_gLine l hl j6 hj6) (fun r s hq => ?_)); obtain ⟨j7, ⟨s4, hs4, rfl⟩, hj7, rfl⟩ := hq; refine ⟨rfl, rfl, ?_⟩; (refine zNp ?_))
  (repeat' (first | refine zS ?_ | refine zq5 ?_ | refine zq6 ?_))
  (refine pl_on rfl rfl (zCl [0] e15 (c16 l hl j7 hj7 s4 (by unfold Small; omega)) (fun r s hq => ?_)); obtain ⟨j8, ⟨u2, hu2, rfl⟩, hj8, rfl⟩ := hq; refine ⟨rfl, rfl, ?_⟩; (refine zNp ?_))
  (repeat' (first | refine zS ?_ | refine zq5 ?_ | refine zq6 ?_))
  exact ⟨(i + 1, j8), ⟨by dsimp only; omega, hj8⟩, by dsimp only; omega, zLe, zLes⟩
 ·(repeat' (first | refine zS ?_ | refine zq5 ?_ | refine zq6 ?_))
  (refine pl_op rfl (zCl [0] e17 (c13n l hl j hj 3 (by decide) (by decide)) (fun r s hq => ?_)); obtain ⟨j1, ⟨m, hm, rfl⟩, hj1, rfl⟩ := hq; refine ⟨rfl, rfl, ?_⟩; (refine zNp ?_))
  (repeat' (first | refine zS ?_ | refine zq5 ?_ | refine zq6 ?_))
  refine zNq ?_
  rw [show (15 : Int) + (m : Int) = ((15 + m : Nat) : Int) by omega]
  refine pw_for hD (fun a : Nat × Str => [(9, .str a.2), (10, .int .i64 a.1)]) (fun _ => [tape l j1]) (fun a => a.2.length + 7 * a.1 ≤ 200) (fun a => a.1) (15 + m, []) (by dsimp only; simp; omega) 1 rfl (fun _ => rfl) zLes (fun _ => rfl) (fun _ => rfl) zLe ?_
  rintro ⟨k, w⟩ hk
  dsimp only at hk ⊢
  refine zNq ?_
  (repeat' (first | refine zS ?_ | refine zq5 ?_ | refine zq6 ?_))
  refine zT ?_ ?_ <;> intro h2 <;> refine zNq ?_
  ·(repeat' (first | refine zS ?_ | refine zq5 ?_ | refine zq6 ?_))
   refine ⟨(k - 1, w ++ [105, 99, 109, 112, 32, 44, 32]), by rw [List.length_append]; show _ + 7 + _ ≤ _; omega, by dsimp only; omega, ?_, zLes⟩
   rw [show ((k - 1 : Nat) : Int) = (k : Int) - 1 by omega]
   (exact zLe)
  ·(repeat' (first | refine zS ?_ | refine zq5 ?_ | refine zq6 ?_))
   exact ret2 _ rfl rfl rfl
end Go.Proofs.YtkaobkjcjodffaaGreatDoor
