/-
 Tape.Open at 1 device: the loop over the edges of number 0.
 Tape.Open at 2 devices: the loop over the edges of number 0.
-/
import Derived.Test.YtokclomhkggikaaGreatDoorKUO0
set_option maxHeartbeats 20000000
set_option maxRecDepth 100000
namespace Go.Proofs.YtokclomhkggikaaGreatDoor
open Go Go.Pw
section
variable {Gl : Glob}
attribute [local irreducible] PW PWL OpP PCalls PWO bokB hinB bhas tEdges PWT bothT
theorem open_loop_1_0 {B : Base} {Q : Post} (l : List Int) (hl : Tp l) (i : Nat) (hD : ∀ j, B.D j = dOf [tape l i] j) (t : Topo) (ht : EdIn t.edges) (E : List Int) (hEd : E.length < 1000) (j0 : Nat) (hj0 : j0 ≤ l.length)
  (hQ : ∀ (ps : List TPort) (jj : Nat), ps.length < 1000 → (∀ p ∈ ps, PortIn p) → jj ≤ l.length → Q (.exit 2) (oEnd 1 0) [tape l jj, .box (eTopo t).cells, .box [.sl (ps.map ePort)], .dead]) :
  PW Tryz.prog Gl B (subC [1, 1, 0, 1, 0, 0, 1, 0, 0, 1, 1, 0] (codeOf Tryz.f23)) (oEnv 1 0 E) [tape l j0, .box (eTopo t).cells, .box [.nilsl]] Q := by
 have hlen := ht.1
 have hS : Small t.edges := by unfold Small; omega
 refine pw_code rfl ?_
 unfold oEnv
 refine pw_ghost 6 ?_
 refine zNq ?_
 refine pw_for hD (fun a : Nat × List TPort × Nat × Nat => [(8, .int .i64 a.1)]) (fun a => [tape l a.2.2.2, .box (eTopo t).cells, .box [.msl 6 3 0 (a.2.1.map ePort).length a.2.2.1], .arr 6 (a.2.1.map ePort) a.2.2.1]) (fun a => a.1 ≤ E.length ∧ a.2.1.length = a.1 ∧ (∀ p ∈ a.2.1, PortIn p) ∧ a.2.2.2 ≤ l.length) (fun a => E.length - a.1) (0, [], 0, j0) ⟨Nat.zero_le _, rfl, (by simp), hj0⟩ 4 rfl (fun _ => rfl)
  ⟨.inl rfl, .inl rfl, .inr (.inr ⟨_, _, rfl, rfl, zLe⟩), .inl rfl, trivial⟩ (fun _ => rfl) (fun _ => rfl) zLe ?_
 rintro ⟨k, ps, cap, jj0⟩ ⟨hk, hps0, hpI0, hjj0⟩
 dsimp only at hk hps0 hpI0 hjj0 ⊢
 refine zNq ?_
 (repeat' (first | refine zS ?_ | refine zq5 ?_ | refine zq6 ?_))
 refine zT ?_ ?_ <;> intro h <;> refine zNq ?_
 ·(repeat' (first | refine zS ?_ | refine zq5 ?_ | refine zq6 ?_))
  refine pw_joinX hD (fun a : Nat × List TRule × List TRule => a.1 ≤ l.length ∧ TabIn 4 a.2.1 ∧ TabIn 4 a.2.2) (fun _ => [(9, .ptr 4 0)]) (fun a => [tape l a.1, .box (eTopo t).cells, .box [.msl 6 3 0 (ps.map ePort).length cap], .arr 6 (ps.map ePort) cap, .box (gPort (E.getD k default) a.2.1 a.2.2 [] [] [])]) 5 rfl (fun _ => rfl) (fun _ => rfl) (fun _ => rfl) ?_ ?_
  ·(repeat' (first | (refine zDr [[0,1,2,3,4,5,6,7,8],[9],[10,11],[12]] ?_; refine zDn ?_) | ((refine pw_drawT (.fork [(0, true), (1, true), (2, true), (3, true), (4, true), (5, true), (7, true), (8, true)] 6 (.fork [] 9 (.lin [(10, true), (11, false), (12, false)]) 11 (.lin [(9, false), (10, true), (12, false)])) 11 (.lin [(6, false), (9, false), (10, true), (12, false)])) hmix (by decide +kernel) ?_; refine pwt_fork ?_); refine zDn ?_) | refine zS ?_ | (refine zg1 ?_; intro x j hx hj; refine zNp ?_) | (refine zg2 ?_; intro v hv; refine zNp ?_) | refine zg3 ?_ | refine zD ?_ | (refine zg4 ?_; intro x j hx hj; refine ⟨zLok, ?_⟩; refine zDn ?_) | (refine zg5 ?_; intro v hv; refine zDn ?_) | refine zg6 ?_ | refine po_both ?_ ?_ | refine pwt_both ?_ ?_ | refine pwt_fork ?_ | refine pwt_lin ?_ | (refine po_test rfl rfl rfl rfl zB ?_ ?_ <;> intro hb <;> first | exact zX | refine zDn ?_) | refine zq5 ?_ | refine zq6 ?_))
   all_goals
    rename_i xa ja hxa hja
    exact ⟨(j, xa, x), ⟨hj, hxa, hx⟩, zLe, ⟨.inl rfl, .inl rfl, .inl rfl, .inl rfl, .inr (.inr ⟨_, _, rfl, rfl, zLe⟩), trivial⟩⟩
  rintro ⟨j1, A, C0⟩ ⟨hj1, hA, hC0⟩
  dsimp only at hj1 hA hC0 ⊢
  unfold gPort
  refine zNq ?_
  (repeat' (first | refine zS ?_ | (refine zg1 ?_; intro x j hx hj; refine zNp ?_) | (refine zg2 ?_; intro v hv; refine zNp ?_) | refine zg3 ?_ | refine zq5 ?_ | refine zq6 ?_))
  refine pw_joinX hD (fun a : Nat × List TRule => a.1 ≤ l.length ∧ TabIn 4 a.2) (fun _ => [(43, .any)]) (fun a => [tape l a.1, .box (eTopo t).cells, .box [.msl 6 3 0 (ps.map ePort).length cap], .arr 6 (ps.map ePort) cap, .box (gPort (E.getD k default) A a.2 [] [] [])]) 5 rfl (fun _ => rfl) (fun _ => rfl) (fun _ => rfl) ?_ ?_
  ·refine zT ?_ ?_ <;> intro h2 <;> refine zNq ?_
   ·(repeat' (first | refine zS ?_ | (refine zg1 ?_; intro x j hx hj; refine zNp ?_) | (refine zg2 ?_; intro v hv; refine zNp ?_) | refine zg3 ?_ | refine zq5 ?_ | refine zq6 ?_))
    exact ⟨(_, [⟨fullB, true⟩]), ⟨hj, tab_full⟩, zLe, zLes⟩
   ·(repeat' (first | refine zS ?_ | (refine zg1 ?_; intro x j hx hj; refine zNp ?_) | (refine zg2 ?_; intro v hv; refine zNp ?_) | refine zg3 ?_ | refine zq5 ?_ | refine zq6 ?_))
    exact ⟨(_, C0), ⟨hj, hC0⟩, zLe, zLes⟩
  clear hj hx hC0 hj1
  rintro ⟨j2, C⟩ ⟨hj2, hC⟩
  dsimp only at hj2 hC ⊢
  unfold gPort
  refine zNq ?_
  (repeat' (first | refine zS ?_ | (refine zg1 ?_; intro x j hx hj; refine zNp ?_) | (refine zg2 ?_; intro v hv; refine zNp ?_) | refine zg3 ?_ | refine zq5 ?_ | refine zq6 ?_))
  refine pw_joinX hD (fun a : Nat × List TSteer => a.1 ≤ l.length ∧ a.2.length ≤ 1 ∧ ∀ s ∈ a.2, BoxIn s.m) (fun _ => [(50, .any)]) (fun a => [tape l a.1, .box (eTopo t).cells, .box [.msl 6 3 0 (ps.map ePort).length cap], .arr 6 (ps.map ePort) cap, .box (gPort (E.getD k default) A C [] [] a.2)]) 5 rfl (fun _ => rfl) (fun _ => rfl) (fun _ => rfl) ?_ ?_
  ·refine zT ?_ ?_ <;> intro h2 <;> refine zNq ?_
   ·(repeat' (first | refine zS ?_ | (refine zg1 ?_; intro x j hx hj; refine zNp ?_) | (refine zg2 ?_; intro v hv; refine zNp ?_) | refine zg3 ?_ | refine zq5 ?_ | refine zq6 ?_))
    rename TBox => xb
    rename BoxIn xb => hxb
    rename Str => xc
    exact ⟨(_, [⟨xb, xc⟩]), ⟨hj, Nat.le_refl _, fun s hs => by rw [List.mem_singleton.1 hs]; exact hxb⟩, zLe, zLes⟩
   ·(repeat' (first | refine zS ?_ | (refine zg1 ?_; intro x j hx hj; refine zNp ?_) | (refine zg2 ?_; intro v hv; refine zNp ?_) | refine zg3 ?_ | refine zq5 ?_ | refine zq6 ?_))
    exact ⟨(_, []), ⟨hj, Nat.zero_le _, fun s hs => by cases hs⟩, zLe, zLes⟩
  clear hj hx hj2
  rintro ⟨j3, D⟩ ⟨hj3, hD1, hD2⟩
  dsimp only at hj3 hD1 hD2 ⊢
  unfold gPort
  refine zNq ?_
  (repeat' (first | refine zS ?_ | (refine zg1 ?_; intro x j hx hj; refine zNp ?_) | (refine zg2 ?_; intro v hv; refine zNp ?_) | refine zg3 ?_ | refine zq5 ?_ | refine zq6 ?_))
  refine pw_joinX hD (fun a : Nat × List THide => a.1 ≤ l.length ∧ a.2.length ≤ 1 ∧ ∀ s ∈ a.2, BoxIn s.m) (fun _ => [(64, .any)]) (fun a => [tape l a.1, .box (eTopo t).cells, .box [.msl 6 3 0 (ps.map ePort).length cap], .arr 6 (ps.map ePort) cap, .box (gPort (E.getD k default) A C [] a.2 D)]) 5 rfl (fun _ => rfl) (fun _ => rfl) (fun _ => rfl) ?_ ?_
  ·refine zT ?_ ?_ <;> intro h2 <;> refine zNq ?_
   ·(repeat' (first | refine zS ?_ | (refine zg1 ?_; intro x j hx hj; refine zNp ?_) | (refine zg2 ?_; intro v hv; refine zNp ?_) | refine zg3 ?_ | refine zq5 ?_ | refine zq6 ?_))
    rename TBox => xb
    rename BoxIn xb => hxb
    exact ⟨(_, [⟨xb, _, ⟨_, _⟩⟩]), ⟨hj, Nat.le_refl _, fun s hs => by rw [List.mem_singleton.1 hs]; exact hxb⟩, zLe, zLes⟩
   ·(repeat' (first | refine zS ?_ | (refine zg1 ?_; intro x j hx hj; refine zNp ?_) | (refine zg2 ?_; intro v hv; refine zNp ?_) | refine zg3 ?_ | refine zq5 ?_ | refine zq6 ?_))
    exact ⟨(_, []), ⟨hj, Nat.zero_le _, fun s hs => by cases hs⟩, zLe, zLes⟩
  clear hj hx hj3
  rintro ⟨j4, H⟩ ⟨hj4, hH1, hH2⟩
  dsimp only at hj4 hH1 hH2 ⊢
  unfold gPort
  refine zNq ?_
  (repeat' (first | refine zS ?_ | (refine zg1 ?_; intro x j hx hj; refine zNp ?_) | (refine zg2 ?_; intro v hv; refine zNp ?_) | refine zg3 ?_ | refine zq5 ?_ | refine zq6 ?_))
  refine pw_joinX hD (fun a : Nat × List TMove => a.1 ≤ l.length ∧ a.2.length ≤ 1 ∧ ∀ s ∈ a.2, MoveIn s) (fun _ => [(78, .any)]) (fun a => [tape l a.1, .box (eTopo t).cells, .box [.msl 6 3 0 (ps.map ePort).length cap], .arr 6 (ps.map ePort) cap, .box (gPort (E.getD k default) A C a.2 H D)]) 5 rfl (fun _ => rfl) (fun _ => rfl) (fun _ => rfl) ?_ ?_
  ·refine zT ?_ ?_ <;> intro h2 <;> refine zNq ?_
   ·(repeat' (first | refine zS ?_ | (refine zg1 ?_; intro x j hx hj; refine zNp ?_) | (refine zg2 ?_; intro v hv; refine zNp ?_) | refine zg3 ?_ | refine zq5 ?_ | refine zq6 ?_))
    rename TMove => xb
    rename MoveIn xb => hxb
    exact ⟨(_, [xb]), ⟨hj, Nat.le_refl _, fun s hs => by rw [List.mem_singleton.1 hs]; exact hxb⟩, zLe, zLes⟩
   ·(repeat' (first | refine zS ?_ | (refine zg1 ?_; intro x j hx hj; refine zNp ?_) | (refine zg2 ?_; intro v hv; refine zNp ?_) | refine zg3 ?_ | refine zq5 ?_ | refine zq6 ?_))
    exact ⟨(_, []), ⟨hj, Nat.zero_le _, fun s hs => by cases hs⟩, zLe, zLes⟩
  clear hj hx hj4
  rintro ⟨j5, M⟩ ⟨hj5, hM1, hM2⟩
  dsimp only at hj5 hM1 hM2 ⊢
  unfold gPort
  refine zNq ?_
  have hport : PortIn ⟨E.getD k default, A, C, M, H, D⟩ := ⟨hA, hC, ⟨hD1, hD2⟩, ⟨hM1, hM2⟩, ⟨hH1, hH2⟩⟩
  (repeat' (first | refine zS ?_ | refine zq5 ?_ | refine zq6 ?_))
  refine zDr [[0,1,2,3,4,5,6,7,8],[9],[10,11],[12]] ?_
  refine zDn ?_
  refine zD ?_
  (refine po_val rfl rfl (v_indexB 0 hT rfl rfl rfl rfl (by decide) (by decide) (by decide) (by decide)) ?_; refine zDn ?_)
  refine zD ?_
  (refine po_step rfl rfl (op_append (b := 128) hT rfl rfl rfl rfl rfl rfl (.inl (Nat.zero_lt_succ _)) rfl rfl (by simp; omega) (fun cap2 _ hcap => ⟨zLok, ?_⟩)); refine zDn ?_)
  (refine po_val rfl rfl (v_indexB 0 hT rfl rfl rfl rfl (by decide) (by decide) (by decide) (by decide)) ?_; refine zDn ?_)
  refine zD ?_
  (refine pw_mv 3 5 hD rfl rfl rfl rfl rfl ?_; refine pw_norm rfl ?_)
  refine zNq ?_
  (repeat' (first | refine zS ?_ | refine zq5 ?_ | refine zq6 ?_))
  refine ⟨(k + 1, ps ++ [⟨E.getD k default, A, C, M, H, D⟩], cap2, j5), ⟨by omega, by simp [hps0], fun p hp => ?_, hj5⟩, by dsimp only; omega, ?_, ?_⟩
  ·rcases List.mem_append.1 hp with hp | hp
   ·exact hpI0 p hp
   ·rw [List.mem_singleton.1 hp]; exact hport
  all_goals simp only [List.map_append, List.length_append]
  ·(exact zLe)
  ·(exact zLes)
 ·refine pw_frzB 3 2 (cs1 := []) (cs2 := []) rfl rfl rfl (by decide) ?_
  refine pw_normV rfl ?_
  refine zNq ?_
  refine pw_less (env' := oEnd 1 0) zLe (StLe.refl _) ?_
  refine pw_exit ?_
  exact hQ ps jj0 (by omega) hpI0 hjj0
theorem open_loop_2_0 {B : Base} {Q : Post} (l : List Int) (hl : Tp l) (i : Nat) (hD : ∀ j, B.D j = dOf [tape l i] j) (t : Topo) (ht : EdIn t.edges) (E : List Int) (hEd : E.length < 1000) (j0 : Nat) (hj0 : j0 ≤ l.length)
  (hQ : ∀ (ps : List TPort) (jj : Nat), ps.length < 1000 → (∀ p ∈ ps, PortIn p) → jj ≤ l.length → Q (.exit 2) (oEnd 2 0) [tape l jj, .box (eTopo t).cells, .box [.sl (ps.map ePort), .nilsl], .dead]) :
  PW Tryz.prog Gl B (subC [1, 1, 0, 1, 0, 0, 1, 0, 0, 1, 1, 0] (codeOf Tryz.f23)) (oEnv 2 0 E) [tape l j0, .box (eTopo t).cells, .box [.nilsl, .nilsl]] Q := by
 have hlen := ht.1
 have hS : Small t.edges := by unfold Small; omega
 refine pw_code rfl ?_
 unfold oEnv
 refine pw_ghost 6 ?_
 refine zNq ?_
 refine pw_for hD (fun a : Nat × List TPort × Nat × Nat => [(8, .int .i64 a.1)]) (fun a => [tape l a.2.2.2, .box (eTopo t).cells, .box [.msl 6 3 0 (a.2.1.map ePort).length a.2.2.1, .nilsl], .arr 6 (a.2.1.map ePort) a.2.2.1]) (fun a => a.1 ≤ E.length ∧ a.2.1.length = a.1 ∧ (∀ p ∈ a.2.1, PortIn p) ∧ a.2.2.2 ≤ l.length) (fun a => E.length - a.1) (0, [], 0, j0) ⟨Nat.zero_le _, rfl, (by simp), hj0⟩ 4 rfl (fun _ => rfl)
  ⟨.inl rfl, .inl rfl, .inr (.inr ⟨_, _, rfl, rfl, zLe⟩), .inl rfl, trivial⟩ (fun _ => rfl) (fun _ => rfl) zLe ?_
 rintro ⟨k, ps, cap, jj0⟩ ⟨hk, hps0, hpI0, hjj0⟩
 dsimp only at hk hps0 hpI0 hjj0 ⊢
 refine zNq ?_
 (repeat' (first | refine zS ?_ | refine zq5 ?_ | refine zq6 ?_))
 refine zT ?_ ?_ <;> intro h <;> refine zNq ?_
 ·(repeat' (first | refine zS ?_ | refine zq5 ?_ | refine zq6 ?_))
  refine pw_joinX hD (fun a : Nat × List TRule × List TRule => a.1 ≤ l.length ∧ TabIn 4 a.2.1 ∧ TabIn 4 a.2.2) (fun _ => [(9, .ptr 4 0)]) (fun a => [tape l a.1, .box (eTopo t).cells, .box [.msl 6 3 0 (ps.map ePort).length cap, .nilsl], .arr 6 (ps.map ePort) cap, .box (gPort (E.getD k default) a.2.1 a.2.2 [] [] [])]) 5 rfl (fun _ => rfl) (fun _ => rfl) (fun _ => rfl) ?_ ?_
  ·(repeat' (first | (refine zDr [[0,1,2,3,4,5,6,7,8],[9],[10,11],[12]] ?_; refine zDn ?_) | ((refine pw_drawT (.fork [(0, true), (1, true), (2, true), (3, true), (4, true), (5, true), (7, true), (8, true)] 6 (.fork [] 9 (.lin [(10, true), (11, false), (12, false)]) 11 (.lin [(9, false), (10, true), (12, false)])) 11 (.lin [(6, false), (9, false), (10, true), (12, false)])) hmix (by decide +kernel) ?_; refine pwt_fork ?_); refine zDn ?_) | refine zS ?_ | (refine zg1 ?_; intro x j hx hj; refine zNp ?_) | (refine zg2 ?_; intro v hv; refine zNp ?_) | refine zg3 ?_ | refine zD ?_ | (refine zg4 ?_; intro x j hx hj; refine ⟨zLok, ?_⟩; refine zDn ?_) | (refine zg5 ?_; intro v hv; refine zDn ?_) | refine zg6 ?_ | refine po_both ?_ ?_ | refine pwt_both ?_ ?_ | refine pwt_fork ?_ | refine pwt_lin ?_ | (refine po_test rfl rfl rfl rfl zB ?_ ?_ <;> intro hb <;> first | exact zX | refine zDn ?_) | refine zq5 ?_ | refine zq6 ?_))
   all_goals
    rename_i xa ja hxa hja
    exact ⟨(j, xa, x), ⟨hj, hxa, hx⟩, zLe, ⟨.inl rfl, .inl rfl, .inl rfl, .inl rfl, .inr (.inr ⟨_, _, rfl, rfl, zLe⟩), trivial⟩⟩
  rintro ⟨j1, A, C0⟩ ⟨hj1, hA, hC0⟩
  dsimp only at hj1 hA hC0 ⊢
  unfold gPort
  refine zNq ?_
  (repeat' (first | refine zS ?_ | (refine zg1 ?_; intro x j hx hj; refine zNp ?_) | (refine zg2 ?_; intro v hv; refine zNp ?_) | refine zg3 ?_ | refine zq5 ?_ | refine zq6 ?_))
  refine pw_joinX hD (fun a : Nat × List TRule => a.1 ≤ l.length ∧ TabIn 4 a.2) (fun _ => [(43, .any)]) (fun a => [tape l a.1, .box (eTopo t).cells, .box [.msl 6 3 0 (ps.map ePort).length cap, .nilsl], .arr 6 (ps.map ePort) cap, .box (gPort (E.getD k default) A a.2 [] [] [])]) 5 rfl (fun _ => rfl) (fun _ => rfl) (fun _ => rfl) ?_ ?_
  ·refine zT ?_ ?_ <;> intro h2 <;> refine zNq ?_
   ·(repeat' (first | refine zS ?_ | (refine zg1 ?_; intro x j hx hj; refine zNp ?_) | (refine zg2 ?_; intro v hv; refine zNp ?_) | refine zg3 ?_ | refine zq5 ?_ | refine zq6 ?_))
    exact ⟨(_, [⟨fullB, true⟩]), ⟨hj, tab_full⟩, zLe, zLes⟩
   ·(repeat' (first | refine zS ?_ | (refine zg1 ?_; intro x j hx hj; refine zNp ?_) | (refine zg2 ?_; intro v hv; refine zNp ?_) | refine zg3 ?_ | refine zq5 ?_ | refine zq6 ?_))
    exact ⟨(_, C0), ⟨hj, hC0⟩, zLe, zLes⟩
  clear hj hx hC0 hj1
  rintro ⟨j2, C⟩ ⟨hj2, hC⟩
  dsimp only at hj2 hC ⊢
  unfold gPort
  refine zNq ?_
  (repeat' (first | refine zS ?_ | (refine zg1 ?_; intro x j hx hj; refine zNp ?_) | (refine zg2 ?_; intro v hv; refine zNp ?_) | refine zg3 ?_ | refine zq5 ?_ | refine zq6 ?_))
  refine pw_joinX hD (fun a : Nat × List TSteer => a.1 ≤ l.length ∧ a.2.length ≤ 1 ∧ ∀ s ∈ a.2, BoxIn s.m) (fun _ => [(50, .any)]) (fun a => [tape l a.1, .box (eTopo t).cells, .box [.msl 6 3 0 (ps.map ePort).length cap, .nilsl], .arr 6 (ps.map ePort) cap, .box (gPort (E.getD k default) A C [] [] a.2)]) 5 rfl (fun _ => rfl) (fun _ => rfl) (fun _ => rfl) ?_ ?_
  ·refine zT ?_ ?_ <;> intro h2 <;> refine zNq ?_
   ·(repeat' (first | refine zS ?_ | (refine zg1 ?_; intro x j hx hj; refine zNp ?_) | (refine zg2 ?_; intro v hv; refine zNp ?_) | refine zg3 ?_ | refine zq5 ?_ | refine zq6 ?_))
    rename TBox => xb
    rename BoxIn xb => hxb
    rename Str => xc
    exact ⟨(_, [⟨xb, xc⟩]), ⟨hj, Nat.le_refl _, fun s hs => by rw [List.mem_singleton.1 hs]; exact hxb⟩, zLe, zLes⟩
   ·(repeat' (first | refine zS ?_ | (refine zg1 ?_; intro x j hx hj; refine zNp ?_) | (refine zg2 ?_; intro v hv; refine zNp ?_) | refine zg3 ?_ | refine zq5 ?_ | refine zq6 ?_))
    exact ⟨(_, []), ⟨hj, Nat.zero_le _, fun s hs => by cases hs⟩, zLe, zLes⟩
  clear hj hx hj2
  rintro ⟨j3, D⟩ ⟨hj3, hD1, hD2⟩
  dsimp only at hj3 hD1 hD2 ⊢
  unfold gPort
  refine zNq ?_
  (repeat' (first | refine zS ?_ | (refine zg1 ?_; intro x j hx hj; refine zNp ?_) | (refine zg2 ?_; intro v hv; refine zNp ?_) | refine zg3 ?_ | refine zq5 ?_ | refine zq6 ?_))
  refine pw_joinX hD (fun a : Nat × List THide => a.1 ≤ l.length ∧ a.2.length ≤ 1 ∧ ∀ s ∈ a.2, BoxIn s.m) (fun _ => [(64, .any)]) (fun a => [tape l a.1, .box (eTopo t).cells, .box [.msl 6 3 0 (ps.map ePort).length cap, .nilsl], .arr 6 (ps.map ePort) cap, .box (gPort (E.getD k default) A C [] a.2 D)]) 5 rfl (fun _ => rfl) (fun _ => rfl) (fun _ => rfl) ?_ ?_
  ·refine zT ?_ ?_ <;> intro h2 <;> refine zNq ?_
   ·(repeat' (first | refine zS ?_ | (refine zg1 ?_; intro x j hx hj; refine zNp ?_) | (refine zg2 ?_; intro v hv; refine zNp ?_) | refine zg3 ?_ | refine zq5 ?_ | refine zq6 ?_))
    rename TBox => xb
    rename BoxIn xb => hxb
    exact ⟨(_, [⟨xb, _, ⟨_, _⟩⟩]), ⟨hj, Nat.le_refl _, fun s hs => by rw [List.mem_singleton.1 hs]; exact hxb⟩, zLe, zLes⟩
   ·(repeat' (first | refine zS ?_ | (refine zg1 ?_; intro x j hx hj; refine zNp ?_) | (refine zg2 ?_; intro v hv; refine zNp ?_) | refine zg3 ?_ | refine zq5 ?_ | refine zq6 ?_))
    exact ⟨(_, []), ⟨hj, Nat.zero_le _, fun s hs => by cases hs⟩, zLe, zLes⟩
  clear hj hx hj3
  rintro ⟨j4, H⟩ ⟨hj4, hH1, hH2⟩
  dsimp only at hj4 hH1 hH2 ⊢
  unfold gPort
  refine zNq ?_
  (repeat' (first | refine zS ?_ | (refine zg1 ?_; intro x j hx hj; refine zNp ?_) | (refine zg2 ?_; intro v hv; refine zNp ?_) | refine zg3 ?_ | refine zq5 ?_ | refine zq6 ?_))
  refine pw_joinX hD (fun a : Nat × List TMove => a.1 ≤ l.length ∧ a.2.length ≤ 1 ∧ ∀ s ∈ a.2, MoveIn s) (fun _ => [(78, .any)]) (fun a => [tape l a.1, .box (eTopo t).cells, .box [.msl 6 3 0 (ps.map ePort).length cap, .nilsl], .arr 6 (ps.map ePort) cap, .box (gPort (E.getD k default) A C a.2 H D)]) 5 rfl (fun _ => rfl) (fun _ => rfl) (fun _ => rfl) ?_ ?_
  ·refine zT ?_ ?_ <;> intro h2 <;> refine zNq ?_
   ·(repeat' (first | refine zS ?_ | (refine zg1 ?_; intro x j hx hj; refine zNp ?_) | (refine zg2 ?_; intro v hv; refine zNp ?_) | refine zg3 ?_ | refine zq5 ?_ | refine zq6 ?_))
    rename TMove => xb
    rename MoveIn xb => hxb
    exact ⟨(_, [xb]), ⟨hj, Nat.le_refl _, fun s hs => by rw [List.mem_singleton.1 hs]; exact hxb⟩, zLe, zLes⟩
   ·(repeat' (first | refine zS ?_ | (refine zg1 ?_; intro x j hx hj; refine zNp ?_) | (refine zg2 ?_; intro v hv; refine zNp ?_) | refine zg3 ?_ | refine zq5 ?_ | refine zq6 ?_))
    exact ⟨(_, []), ⟨hj, Nat.zero_le _, fun s hs => by cases hs⟩, zLe, zLes⟩
  clear hj hx hj4
  rintro ⟨j5, M⟩ ⟨hj5, hM1, hM2⟩
  dsimp only at hj5 hM1 hM2 ⊢
  unfold gPort
  refine zNq ?_
  have hport : PortIn ⟨E.getD k default, A, C, M, H, D⟩ := ⟨hA, hC, ⟨hD1, hD2⟩, ⟨hM1, hM2⟩, ⟨hH1, hH2⟩⟩
  (repeat' (first | refine zS ?_ | refine zq5 ?_ | refine zq6 ?_))
  refine zDr [[0,1,2,3,4,5,6,7,8],[9],[10,11],[12]] ?_
  refine zDn ?_
  refine zD ?_
  (refine po_val rfl rfl (v_indexB 0 hT rfl rfl rfl rfl (by decide) (by decide) (by decide) (by decide)) ?_; refine zDn ?_)
  refine zD ?_
  (refine po_step rfl rfl (op_append (b := 128) hT rfl rfl rfl rfl rfl rfl (.inl (Nat.zero_lt_succ _)) rfl rfl (by simp; omega) (fun cap2 _ hcap => ⟨zLok, ?_⟩)); refine zDn ?_)
  (refine po_val rfl rfl (v_indexB 0 hT rfl rfl rfl rfl (by decide) (by decide) (by decide) (by decide)) ?_; refine zDn ?_)
  refine zD ?_
  (refine pw_mv 3 5 hD rfl rfl rfl rfl rfl ?_; refine pw_norm rfl ?_)
  refine zNq ?_
  (repeat' (first | refine zS ?_ | refine zq5 ?_ | refine zq6 ?_))
  refine ⟨(k + 1, ps ++ [⟨E.getD k default, A, C, M, H, D⟩], cap2, j5), ⟨by omega, by simp [hps0], fun p hp => ?_, hj5⟩, by dsimp only; omega, ?_, ?_⟩
  ·rcases List.mem_append.1 hp with hp | hp
   ·exact hpI0 p hp
   ·rw [List.mem_singleton.1 hp]; exact hport
  all_goals simp only [List.map_append, List.length_append]
  ·(exact zLe)
  ·(exact zLes)
 ·refine pw_frzB 3 2 (cs1 := []) (cs2 := [.nilsl]) rfl rfl rfl (by decide) ?_
  refine pw_normV rfl ?_
  refine zNq ?_
  refine pw_less (env' := oEnd 2 0) zLe (StLe.refl _) ?_
  refine pw_exit ?_
  exact hQ ps jj0 (by omega) hpI0 hjj0

end
end Go.Proofs.YtokclomhkggikaaGreatDoor