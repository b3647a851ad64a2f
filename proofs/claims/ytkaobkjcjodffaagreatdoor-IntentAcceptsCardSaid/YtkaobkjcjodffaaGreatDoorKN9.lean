/-
 Contracts of functions, walked over pure values.
-/
import Derived.Test.YtkaobkjcjodffaaGreatDoorKK49
import Derived.Test.YtkaobkjcjodffaaGreatDoorKM21
import Derived.Test.YtkaobkjcjodffaaGreatDoorKK17
set_option maxHeartbeats 20000000
set_option maxRecDepth 100000
namespace Go.Proofs.YtkaobkjcjodffaaGreatDoor
open Go Go.Pw
variable {Gl : Glob}
attribute [local irreducible] PW PWL OpP PCalls PWO iParse iValid iFormat PWT bothT
theorem c9 (hG : GM Gl) (hD' : GD Gl) (hT' : GT Gl) (l : List Int) (hl : Tp l) (s : Str) : PFun Tryz.prog Gl 9 [.sl (l.map eInt), .str s] fun r => r = .bool true := by
 (refine PFun.of hT Tryz.func9 rfl fun B hD => ?_; refine pw_norm rfl ?_)
 (repeat' (first | refine zS ?_ | refine zq5 ?_ | refine zq6 ?_))
 (refine pl_op rfl (op_call [] rfl rfl e10 (by decide) rfl rfl rfl zLe zLes (c10 l) (fun r s hq => ?_)); obtain ⟨rfl, rfl⟩ := hq; refine ⟨rfl, rfl, ?_⟩; (refine zNp ?_))
 (repeat' (first | refine zS ?_ | refine zq5 ?_ | refine zq6 ?_))
 (refine pl_op rfl (op_call [0] rfl rfl e17 (by decide) rfl rfl rfl zLe zLes (c13n l hl 0 (Nat.zero_le _) 4 (by decide) (by decide)) (fun r s hq => ?_)); obtain ⟨j0, ⟨m0, hm0, rfl⟩, hj0, rfl⟩ := hq; refine ⟨rfl, rfl, ?_⟩; (refine zNp ?_))
 (repeat' (first | refine zS ?_ | refine zq5 ?_ | refine zq6 ?_))
 refine zNq ?_
 refine pw_joinX hD (fun a : Nat × Str => a.1 ≤ l.length) (fun a => [(1, .str a.2), (18, .any)]) (fun a => [tape l a.1]) 1 rfl (fun _ => rfl) (fun _ => rfl) (fun _ => rfl) ?_ ?_
 ·refine zT ?_ ?_ <;> intro h <;> refine zNq ?_
  ·(repeat' (first | refine zS ?_ | refine zq5 ?_ | refine zq6 ?_))
   (refine pl_op rfl (op_call [0] rfl rfl e13 (by decide) rfl rfl rfl zLe zLes (c12 l hl j0 hj0 3 (by decide) (by decide)) (fun r s hq => ?_)); obtain ⟨j1, T, c, ⟨m, hmn, hg⟩, hj1, rfl, rfl⟩ := hq; refine ⟨rfl, rfl, ?_⟩; (refine zNp ?_))
   have hT1 := hg.el
   have hT2 := hg.dl
   have hT3 := hg.n6
   refine pl_frzV (fun i => Nat.ble 1 i) 22 (y := eTopo T) rfl (by (refine .inr (.inr (.inr (.inr (.inl ⟨_, _, rfl, rfl, ?_⟩)))); (repeat (first | exact True.intro | refine ⟨.inr (.inl rfl), ?_⟩ | refine ⟨.inr (.inr (.inl ⟨rfl, rfl⟩)), ?_⟩ | refine ⟨.inr (.inr (.inr (.inl ⟨_, _, _, _, _, _, rfl, rfl, rfl, rfl, rfl⟩))), ?_⟩ | refine ⟨.inr (.inr (.inr (.inl ⟨_, _, _, _, _, _, rfl, rfl, rfl, (by simp only [List.length_map, List.length_set, List.length_append, List.length_cons, List.length_nil]), rfl⟩))), ?_⟩)))) ?_
   (refine zNp ?_)
   (refine pl_op rfl (op_call [0] rfl rfl e12 (by decide) rfl rfl rfl zLe zLes (c_gIntent l hl j1 hj1 T 3 (by decide) (by omega) (by omega) hg.epfx) (fun r s hq => ?_)); obtain ⟨j2, ⟨I, hI, rfl⟩, hj2, rfl⟩ := hq; refine ⟨rfl, rfl, ?_⟩; (refine zNp ?_))
   (refine pl_op rfl (op_fun (c_rFormat16 I (hI.big (by decide)) hI.iin) rfl rfl e11 zLe rfl (fun r hr => ?_)); subst hr; refine ⟨rfl, ?_⟩; (refine zNp ?_))
   have hx := iFormat_len hI.iin.toIIn
   generalize iFormat I = X at hx ⊢
   obtain ⟨x, e⟩ := X
   dsimp only at hx ⊢
   (repeat' (first | refine zS ?_ | refine zq5 ?_ | refine zq6 ?_))
   (refine pl_op rfl (op_call [0] rfl rfl e16 (by decide) rfl rfl rfl zLe zLes (c_gLine l hl j2 hj2) (fun r s hq => ?_)); obtain ⟨j3, ⟨s1, hs1, rfl⟩, hj3, rfl⟩ := hq; refine ⟨rfl, rfl, ?_⟩; (refine zNp ?_))
   (repeat' (first | refine zS ?_ | refine zq5 ?_ | refine zq6 ?_))
   (refine pl_op rfl (op_call [0] rfl rfl e16 (by decide) rfl rfl rfl zLe zLes (c_gLine l hl j3 hj3) (fun r s hq => ?_)); obtain ⟨j4, ⟨s2, hs2, rfl⟩, hj4, rfl⟩ := hq; refine ⟨rfl, rfl, ?_⟩; (refine zNp ?_))
   (repeat' (first | refine zS ?_ | refine zq5 ?_ | refine zq6 ?_))
   exact ⟨(j4, (s1 ++ x) ++ s2), hj4, by (exact zLe), by (exact zLes)⟩
  ·(repeat' (first | refine zS ?_ | refine zq5 ?_ | refine zq6 ?_))
   exact ⟨(j0, s), hj0, by (exact zLe), by (exact zLes)⟩
 rintro ⟨j, u⟩ hj
 dsimp only at hj ⊢
 refine zNq ?_
 (repeat' (first | refine zS ?_ | refine zq5 ?_ | refine zq6 ?_))
 (refine pl_op rfl (op_fun (c_iParse hG hD' u) rfl rfl e19 zLe rfl (fun r hr => ?_)); subst hr; refine ⟨rfl, ?_⟩; (refine zNp ?_))
 have hok := iParse_ok u
 have hbig := (iParse_big u).1
 generalize iParse u = X at hok hbig ⊢
 obtain ⟨x, n, e⟩ := X
 dsimp only at hok hbig ⊢
 (repeat' (first | refine zS ?_ | refine zq5 ?_ | refine zq6 ?_))
 refine zT ?_ ?_ <;> intro h <;> refine zNq ?_
 ·obtain ⟨rfl, hn⟩ := hok.2 h
  (repeat' (first | refine zS ?_ | refine zq5 ?_ | refine zq6 ?_))
  (refine pl_op rfl (op_fun (c_same int0 int0_big) rfl rfl e22 ⟨.inr (.inl rfl), .inr (.inr (.inr (.inr ⟨_, _, rfl, rfl, ⟨.inr (.inr (.inl ⟨rfl, rfl⟩)), .inr (.inr (.inl ⟨rfl, rfl⟩)), .inr (.inr (.inl ⟨rfl, rfl⟩)), .inr (.inr (.inl ⟨rfl, rfl⟩)), .inr (.inr (.inl ⟨rfl, rfl⟩)), .inr (.inr (.inl ⟨rfl, rfl⟩)), trivial⟩⟩))), trivial⟩ rfl (fun r hr => ?_)); subst hr; refine ⟨rfl, ?_⟩; (refine zNp ?_))
  (repeat' (first | refine zS ?_ | refine zq5 ?_ | refine zq6 ?_))
  exact ret2 _ rfl (by simp [hn]) rfl
 ·obtain ⟨⟨hv, hi2⟩, rfl⟩ := hok.1 (Decidable.not_not.1 h)
  have hval := iValid_of hv
  have hF : iFormat x = (textS (iLines x), 0) := by unfold iFormat; rw [if_pos hval]
  have hfm := c_format (Gl := Gl) hT' hD' x hbig hi2
  rw [hF] at hfm
  dsimp only at hfm
  (repeat' (first | refine zS ?_ | refine zq5 ?_ | refine zq6 ?_))
  (refine pl_op rfl (op_fun (hfm) rfl rfl e28 zLe rfl (fun r hr => ?_)); subst hr; refine ⟨rfl, ?_⟩; (refine zNp ?_))
  (repeat' (first | refine zS ?_ | refine zq5 ?_ | refine zq6 ?_))
  (refine pl_op rfl (op_fun (c_iParse hG hD' (textS (iLines x))) rfl rfl e19 zLe rfl (fun r hr => ?_)); subst hr; refine ⟨rfl, ?_⟩; (refine zNp ?_))
  by_cases hlong : (textS (iLines x)).length ≤ 16384
  ·rw [iParse_text hval hi2 hlong]
   (repeat' (first | refine zS ?_ | refine zq5 ?_ | refine zq6 ?_))
   (refine pl_on rfl rfl (op_fun (c_iValid hD' x hbig hi2.wins) rfl rfl e29 zLe rfl (fun r hr => ?_)); subst hr; refine ⟨rfl, ?_⟩; (refine zNp ?_))
   rw [hval]
   (repeat' (first | refine zS ?_ | refine zq5 ?_ | refine zq6 ?_))
   refine pl_split 77 rfl (fun hw => ?_) (fun hw => ?_)
   ·exfalso
    have := of_decide_eq_true hw
    omega
   ·(repeat' (first | refine zS ?_ | refine zq5 ?_ | refine zq6 ?_))
    (refine pl_on rfl rfl (op_fun (c_same x hbig) rfl rfl e22 zLe rfl (fun r hr => ?_)); subst hr; refine ⟨rfl, ?_⟩; (refine zNp ?_))
    (repeat' (first | refine zS ?_ | refine zq5 ?_ | refine zq6 ?_))
    exact ret2 _ rfl rfl rfl
  ·generalize iParse (textS (iLines x)) = Y
   obtain ⟨y, m, e2⟩ := Y
   dsimp only
   (repeat' (first | refine zS ?_ | refine zq5 ?_ | refine zq6 ?_))
   (refine pl_on rfl rfl (op_fun (c_iValid hD' x hbig hi2.wins) rfl rfl e29 zLe rfl (fun r hr => ?_)); subst hr; refine ⟨rfl, ?_⟩; (refine zNp ?_))
   rw [hval]
   (repeat' (first | refine zS ?_ | refine zq5 ?_ | refine zq6 ?_))
   refine pl_split 77 rfl (fun hw => ?_) (fun hw => ?_)
   ·(repeat' (first | refine zS ?_ | refine zq5 ?_ | refine zq6 ?_))
    exact ret2 _ rfl rfl rfl
   ·exfalso
    have := of_decide_eq_false hw
    omega
end Go.Proofs.YtkaobkjcjodffaaGreatDoor
