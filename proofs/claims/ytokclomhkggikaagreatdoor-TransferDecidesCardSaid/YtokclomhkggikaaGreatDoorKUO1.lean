/-
 Tape.Open at 1 device.
 Tape.Open at 2 devices.
 Tape.Open at 3 devices.
 The contract of Tape.Open.
-/
import Derived.Test.YtokclomhkggikaaGreatDoorKUO10
import Derived.Test.YtokclomhkggikaaGreatDoorKUO21
import Derived.Test.YtokclomhkggikaaGreatDoorKUO31
import Derived.Test.YtokclomhkggikaaGreatDoorKU7
set_option maxHeartbeats 20000000
set_option maxRecDepth 100000
namespace Go.Proofs.YtokclomhkggikaaGreatDoor
open Go Go.Pw
section
variable {Gl : Glob}
attribute [local irreducible] PW PWL OpP PCalls PWO bokB hinB bhas tEdges PWT bothT
theorem g_open1 (l : List Int) (hl : Tp l) (i : Nat) (hi : i ≤ l.length) (t : Topo) (ht : EdIn t.edges) (hd : t.devs.length = 1) : Gen Gl 23 [eTopo t] l i fun r => ∃ x, CfgsIn x ∧ r = .sl (x.map eCfg) := by
 have hlen := ht.1
 have hS : Small t.edges := by unfold Small; omega
 have hE : ∀ d, (tEdges ⟨t.devs, t.links, t.edges, t.pools, t.tol⟩ d).length ≤ t.edges.length := fun d => tEdges_len _ d
 refine PCalls.of hT Tryz.func23 rfl 1 (Nat.le_refl _) fun B hD => ?_
 refine pw_norm rfl ?_
 (repeat' (first | (refine zDr [[0,1,2,3,4,5,6,7,8],[9],[10,11],[12]] ?_; refine zDn ?_) | ((refine pw_drawT (.fork [(0, true), (1, true), (2, true), (3, true), (4, true), (5, true), (7, true), (8, true)] 6 (.fork [] 9 (.lin [(10, true), (11, false), (12, false)]) 11 (.lin [(9, false), (10, true), (12, false)])) 11 (.lin [(6, false), (9, false), (10, true), (12, false)])) hmix (by decide +kernel) ?_; refine pwt_fork ?_); refine zDn ?_) | refine zS ?_ | (refine zg1 ?_; intro x j hx hj; refine zNp ?_) | (refine zg2 ?_; intro v hv; refine zNp ?_) | refine zg3 ?_ | refine zD ?_ | (refine zg4 ?_; intro x j hx hj; refine ⟨zLok, ?_⟩; refine zDn ?_) | (refine zg5 ?_; intro v hv; refine zDn ?_) | refine zg6 ?_ | refine po_both ?_ ?_ | refine pwt_both ?_ ?_ | refine pwt_fork ?_ | refine pwt_lin ?_ | (refine po_test rfl rfl rfl rfl zB ?_ ?_ <;> intro hb <;> first | exact zX | refine zDn ?_) | (refine zT ?_ ?_ <;> intro h <;> first | exact zX | refine zNq ?_)))
 have hn : PV.int .i64 (t.devs.length : Int) = .int .i64 1 := by rw [hd]; rfl
 refine pl_op rfl (op_makeS .nilsl hT rfl rfl rfl hn hn (by decide) (by decide) (by decide) (by decide) (by decide) rfl rfl ?_)
 refine zNp ?_
 (repeat' (first | (refine zDr [[0,1,2,3,4,5,6,7,8],[9],[10,11],[12]] ?_; refine zDn ?_) | ((refine pw_drawT (.fork [(0, true), (1, true), (2, true), (3, true), (4, true), (5, true), (7, true), (8, true)] 6 (.fork [] 9 (.lin [(10, true), (11, false), (12, false)]) 11 (.lin [(9, false), (10, true), (12, false)])) 11 (.lin [(6, false), (9, false), (10, true), (12, false)])) hmix (by decide +kernel) ?_; refine pwt_fork ?_); refine zDn ?_) | refine zS ?_ | (refine zg1 ?_; intro x j hx hj; refine zNp ?_) | (refine zg2 ?_; intro v hv; refine zNp ?_) | refine zg3 ?_ | refine zD ?_ | (refine zg4 ?_; intro x j hx hj; refine ⟨zLok, ?_⟩; refine zDn ?_) | (refine zg5 ?_; intro v hv; refine zDn ?_) | refine zg6 ?_ | refine po_both ?_ ?_ | refine pwt_both ?_ ?_ | refine pwt_fork ?_ | refine pwt_lin ?_ | (refine po_test rfl rfl rfl rfl zB ?_ ?_ <;> intro hb <;> first | exact zX | refine zDn ?_) | (refine zT ?_ ?_ <;> intro h <;> first | exact zX | refine zNq ?_)))
 refine pw_arrBox 2 rfl rfl (by decide) (by intro c hc; simp at hc; rcases hc with rfl; rfl) ?_
 refine zNq ?_
 refine pw_rounds 7 ?_
 refine pw_round ?_
 (repeat' (first | (refine zDr [[0,1,2,3,4,5,6,7,8],[9],[10,11],[12]] ?_; refine zDn ?_) | ((refine pw_drawT (.fork [(0, true), (1, true), (2, true), (3, true), (4, true), (5, true), (7, true), (8, true)] 6 (.fork [] 9 (.lin [(10, true), (11, false), (12, false)]) 11 (.lin [(9, false), (10, true), (12, false)])) 11 (.lin [(6, false), (9, false), (10, true), (12, false)])) hmix (by decide +kernel) ?_; refine pwt_fork ?_); refine zDn ?_) | refine zS ?_ | (refine zg1 ?_; intro x j hx hj; refine zNp ?_) | (refine zg2 ?_; intro v hv; refine zNp ?_) | refine zg3 ?_ | refine zD ?_ | (refine zg4 ?_; intro x j hx hj; refine ⟨zLok, ?_⟩; refine zDn ?_) | (refine zg5 ?_; intro v hv; refine zDn ?_) | refine zg6 ?_ | refine po_both ?_ ?_ | refine pwt_both ?_ ?_ | refine pwt_fork ?_ | refine pwt_lin ?_ | (refine po_test rfl rfl rfl rfl zB ?_ ?_ <;> intro hb <;> first | exact zX | refine zDn ?_) | (refine zT ?_ ?_ <;> intro h <;> first | exact zX | refine zNq ?_)))
 have hEd0 := hE 0
 generalize tEdges ⟨t.devs, t.links, t.edges, t.pools, t.tol⟩ 0 = E0 at hEd0 ⊢
 refine pw_less (env' := oEnv 1 0 E0) zLe (StLe.refl _) ?_
 refine open_loop_1_0 l hl i hD t ht E0 (by omega) _ hi (fun ps0 jj0 hk0 hpI0 hjj0 => ?_)
 unfold oEnd
 refine pw_boxRow 2 [.agg [.sl (ps0.map ePort)]] rfl rfl rfl (by simp [maxLen]) ?_
 refine zNq ?_
 (repeat' (first | (refine zDr [[0,1,2,3,4,5,6,7,8],[9],[10,11],[12]] ?_; refine zDn ?_) | ((refine pw_drawT (.fork [(0, true), (1, true), (2, true), (3, true), (4, true), (5, true), (7, true), (8, true)] 6 (.fork [] 9 (.lin [(10, true), (11, false), (12, false)]) 11 (.lin [(9, false), (10, true), (12, false)])) 11 (.lin [(6, false), (9, false), (10, true), (12, false)])) hmix (by decide +kernel) ?_; refine pwt_fork ?_); refine zDn ?_) | refine zS ?_ | (refine zg1 ?_; intro x j hx hj; refine zNp ?_) | (refine zg2 ?_; intro v hv; refine zNp ?_) | refine zg3 ?_ | refine zD ?_ | (refine zg4 ?_; intro x j hx hj; refine ⟨zLok, ?_⟩; refine zDn ?_) | (refine zg5 ?_; intro v hv; refine zDn ?_) | refine zg6 ?_ | refine po_both ?_ ?_ | refine pwt_both ?_ ?_ | refine pwt_fork ?_ | refine pwt_lin ?_ | (refine po_test rfl rfl rfl rfl zB ?_ ?_ <;> intro hb <;> first | exact zX | refine zDn ?_) | (refine zT ?_ ?_ <;> intro h <;> first | exact zX | refine zNq ?_)))
 refine pw_round ?_
 (repeat' (first | (refine zDr [[0,1,2,3,4,5,6,7,8],[9],[10,11],[12]] ?_; refine zDn ?_) | ((refine pw_drawT (.fork [(0, true), (1, true), (2, true), (3, true), (4, true), (5, true), (7, true), (8, true)] 6 (.fork [] 9 (.lin [(10, true), (11, false), (12, false)]) 11 (.lin [(9, false), (10, true), (12, false)])) 11 (.lin [(6, false), (9, false), (10, true), (12, false)])) hmix (by decide +kernel) ?_; refine pwt_fork ?_); refine zDn ?_) | refine zS ?_ | (refine zg1 ?_; intro x j hx hj; refine zNp ?_) | (refine zg2 ?_; intro v hv; refine zNp ?_) | refine zg3 ?_ | refine zD ?_ | (refine zg4 ?_; intro x j hx hj; refine ⟨zLok, ?_⟩; refine zDn ?_) | (refine zg5 ?_; intro v hv; refine zDn ?_) | refine zg6 ?_ | refine po_both ?_ ?_ | refine pwt_both ?_ ?_ | refine pwt_fork ?_ | refine pwt_lin ?_ | (refine po_test rfl rfl rfl rfl zB ?_ ?_ <;> intro hb <;> first | exact zX | refine zDn ?_) | (refine zT ?_ ?_ <;> intro h <;> first | exact zX | refine zNq ?_)))
 refine ⟨_, .sl [.agg [.sl (ps0.map ePort)]], [tape l jj0], rfl, ⟨jj0, ⟨[⟨ps0⟩], ⟨by simp, fun c hc => ?_⟩, rfl⟩, hjj0, rfl⟩, .inr (.inr (.inr (.inl ⟨1, 2, 1, 1, 1, _, rfl, rfl, rfl, rfl, rfl⟩))), ⟨.inr (.inl rfl), trivial⟩, rfl, rfl⟩
 simp only [List.mem_cons, List.mem_nil_iff, or_false] at hc
 subst hc
 ·exact ⟨hk0, hpI0⟩
theorem g_open2 (l : List Int) (hl : Tp l) (i : Nat) (hi : i ≤ l.length) (t : Topo) (ht : EdIn t.edges) (hd : t.devs.length = 2) : Gen Gl 23 [eTopo t] l i fun r => ∃ x, CfgsIn x ∧ r = .sl (x.map eCfg) := by
 have hlen := ht.1
 have hS : Small t.edges := by unfold Small; omega
 have hE : ∀ d, (tEdges ⟨t.devs, t.links, t.edges, t.pools, t.tol⟩ d).length ≤ t.edges.length := fun d => tEdges_len _ d
 refine PCalls.of hT Tryz.func23 rfl 1 (Nat.le_refl _) fun B hD => ?_
 refine pw_norm rfl ?_
 (repeat' (first | (refine zDr [[0,1,2,3,4,5,6,7,8],[9],[10,11],[12]] ?_; refine zDn ?_) | ((refine pw_drawT (.fork [(0, true), (1, true), (2, true), (3, true), (4, true), (5, true), (7, true), (8, true)] 6 (.fork [] 9 (.lin [(10, true), (11, false), (12, false)]) 11 (.lin [(9, false), (10, true), (12, false)])) 11 (.lin [(6, false), (9, false), (10, true), (12, false)])) hmix (by decide +kernel) ?_; refine pwt_fork ?_); refine zDn ?_) | refine zS ?_ | (refine zg1 ?_; intro x j hx hj; refine zNp ?_) | (refine zg2 ?_; intro v hv; refine zNp ?_) | refine zg3 ?_ | refine zD ?_ | (refine zg4 ?_; intro x j hx hj; refine ⟨zLok, ?_⟩; refine zDn ?_) | (refine zg5 ?_; intro v hv; refine zDn ?_) | refine zg6 ?_ | refine po_both ?_ ?_ | refine pwt_both ?_ ?_ | refine pwt_fork ?_ | refine pwt_lin ?_ | (refine po_test rfl rfl rfl rfl zB ?_ ?_ <;> intro hb <;> first | exact zX | refine zDn ?_) | (refine zT ?_ ?_ <;> intro h <;> first | exact zX | refine zNq ?_)))
 have hn : PV.int .i64 (t.devs.length : Int) = .int .i64 2 := by rw [hd]; rfl
 refine pl_op rfl (op_makeS .nilsl hT rfl rfl rfl hn hn (by decide) (by decide) (by decide) (by decide) (by decide) rfl rfl ?_)
 refine zNp ?_
 (repeat' (first | (refine zDr [[0,1,2,3,4,5,6,7,8],[9],[10,11],[12]] ?_; refine zDn ?_) | ((refine pw_drawT (.fork [(0, true), (1, true), (2, true), (3, true), (4, true), (5, true), (7, true), (8, true)] 6 (.fork [] 9 (.lin [(10, true), (11, false), (12, false)]) 11 (.lin [(9, false), (10, true), (12, false)])) 11 (.lin [(6, false), (9, false), (10, true), (12, false)])) hmix (by decide +kernel) ?_; refine pwt_fork ?_); refine zDn ?_) | refine zS ?_ | (refine zg1 ?_; intro x j hx hj; refine zNp ?_) | (refine zg2 ?_; intro v hv; refine zNp ?_) | refine zg3 ?_ | refine zD ?_ | (refine zg4 ?_; intro x j hx hj; refine ⟨zLok, ?_⟩; refine zDn ?_) | (refine zg5 ?_; intro v hv; refine zDn ?_) | refine zg6 ?_ | refine po_both ?_ ?_ | refine pwt_both ?_ ?_ | refine pwt_fork ?_ | refine pwt_lin ?_ | (refine po_test rfl rfl rfl rfl zB ?_ ?_ <;> intro hb <;> first | exact zX | refine zDn ?_) | (refine zT ?_ ?_ <;> intro h <;> first | exact zX | refine zNq ?_)))
 refine pw_arrBox 2 rfl rfl (by decide) (by intro c hc; simp at hc; rcases hc with rfl; rfl) ?_
 refine zNq ?_
 refine pw_rounds 7 ?_
 refine pw_round ?_
 (repeat' (first | (refine zDr [[0,1,2,3,4,5,6,7,8],[9],[10,11],[12]] ?_; refine zDn ?_) | ((refine pw_drawT (.fork [(0, true), (1, true), (2, true), (3, true), (4, true), (5, true), (7, true), (8, true)] 6 (.fork [] 9 (.lin [(10, true), (11, false), (12, false)]) 11 (.lin [(9, false), (10, true), (12, false)])) 11 (.lin [(6, false), (9, false), (10, true), (12, false)])) hmix (by decide +kernel) ?_; refine pwt_fork ?_); refine zDn ?_) | refine zS ?_ | (refine zg1 ?_; intro x j hx hj; refine zNp ?_) | (refine zg2 ?_; intro v hv; refine zNp ?_) | refine zg3 ?_ | refine zD ?_ | (refine zg4 ?_; intro x j hx hj; refine ⟨zLok, ?_⟩; refine zDn ?_) | (refine zg5 ?_; intro v hv; refine zDn ?_) | refine zg6 ?_ | refine po_both ?_ ?_ | refine pwt_both ?_ ?_ | refine pwt_fork ?_ | refine pwt_lin ?_ | (refine po_test rfl rfl rfl rfl zB ?_ ?_ <;> intro hb <;> first | exact zX | refine zDn ?_) | (refine zT ?_ ?_ <;> intro h <;> first | exact zX | refine zNq ?_)))
 have hEd0 := hE 0
 generalize tEdges ⟨t.devs, t.links, t.edges, t.pools, t.tol⟩ 0 = E0 at hEd0 ⊢
 refine pw_less (env' := oEnv 2 0 E0) zLe (StLe.refl _) ?_
 refine open_loop_2_0 l hl i hD t ht E0 (by omega) _ hi (fun ps0 jj0 hk0 hpI0 hjj0 => ?_)
 unfold oEnd
 refine zNq ?_
 (repeat' (first | (refine zDr [[0,1,2,3,4,5,6,7,8],[9],[10,11],[12]] ?_; refine zDn ?_) | ((refine pw_drawT (.fork [(0, true), (1, true), (2, true), (3, true), (4, true), (5, true), (7, true), (8, true)] 6 (.fork [] 9 (.lin [(10, true), (11, false), (12, false)]) 11 (.lin [(9, false), (10, true), (12, false)])) 11 (.lin [(6, false), (9, false), (10, true), (12, false)])) hmix (by decide +kernel) ?_; refine pwt_fork ?_); refine zDn ?_) | refine zS ?_ | (refine zg1 ?_; intro x j hx hj; refine zNp ?_) | (refine zg2 ?_; intro v hv; refine zNp ?_) | refine zg3 ?_ | refine zD ?_ | (refine zg4 ?_; intro x j hx hj; refine ⟨zLok, ?_⟩; refine zDn ?_) | (refine zg5 ?_; intro v hv; refine zDn ?_) | refine zg6 ?_ | refine po_both ?_ ?_ | refine pwt_both ?_ ?_ | refine pwt_fork ?_ | refine pwt_lin ?_ | (refine po_test rfl rfl rfl rfl zB ?_ ?_ <;> intro hb <;> first | exact zX | refine zDn ?_) | (refine zT ?_ ?_ <;> intro h <;> first | exact zX | refine zNq ?_)))
 refine pw_round ?_
 (repeat' (first | (refine zDr [[0,1,2,3,4,5,6,7,8],[9],[10,11],[12]] ?_; refine zDn ?_) | ((refine pw_drawT (.fork [(0, true), (1, true), (2, true), (3, true), (4, true), (5, true), (7, true), (8, true)] 6 (.fork [] 9 (.lin [(10, true), (11, false), (12, false)]) 11 (.lin [(9, false), (10, true), (12, false)])) 11 (.lin [(6, false), (9, false), (10, true), (12, false)])) hmix (by decide +kernel) ?_; refine pwt_fork ?_); refine zDn ?_) | refine zS ?_ | (refine zg1 ?_; intro x j hx hj; refine zNp ?_) | (refine zg2 ?_; intro v hv; refine zNp ?_) | refine zg3 ?_ | refine zD ?_ | (refine zg4 ?_; intro x j hx hj; refine ⟨zLok, ?_⟩; refine zDn ?_) | (refine zg5 ?_; intro v hv; refine zDn ?_) | refine zg6 ?_ | refine po_both ?_ ?_ | refine pwt_both ?_ ?_ | refine pwt_fork ?_ | refine pwt_lin ?_ | (refine po_test rfl rfl rfl rfl zB ?_ ?_ <;> intro hb <;> first | exact zX | refine zDn ?_) | (refine zT ?_ ?_ <;> intro h <;> first | exact zX | refine zNq ?_)))
 first | rw [show ((0 : Nat) : Int) + 1 = 1 from rfl] | rw [show (0 : Int) + 1 = 1 from rfl]
 have hEd1 := hE 1
 generalize tEdges ⟨t.devs, t.links, t.edges, t.pools, t.tol⟩ 1 = E1 at hEd1 ⊢
 refine pw_less (env' := oEnv 2 1 E1) zLe (StLe.refl _) ?_
 refine open_loop_2_1 l hl i hD t ht E1 (by omega) (ps0.map ePort) _ hjj0 (fun ps1 jj1 hk1 hpI1 hjj1 => ?_)
 unfold oEnd
 refine pw_boxRow 2 [.agg [.sl (ps0.map ePort)], .agg [.sl (ps1.map ePort)]] rfl rfl rfl (by simp [maxLen]) ?_
 refine zNq ?_
 (repeat' (first | (refine zDr [[0,1,2,3,4,5,6,7,8],[9],[10,11],[12]] ?_; refine zDn ?_) | ((refine pw_drawT (.fork [(0, true), (1, true), (2, true), (3, true), (4, true), (5, true), (7, true), (8, true)] 6 (.fork [] 9 (.lin [(10, true), (11, false), (12, false)]) 11 (.lin [(9, false), (10, true), (12, false)])) 11 (.lin [(6, false), (9, false), (10, true), (12, false)])) hmix (by decide +kernel) ?_; refine pwt_fork ?_); refine zDn ?_) | refine zS ?_ | (refine zg1 ?_; intro x j hx hj; refine zNp ?_) | (refine zg2 ?_; intro v hv; refine zNp ?_) | refine zg3 ?_ | refine zD ?_ | (refine zg4 ?_; intro x j hx hj; refine ⟨zLok, ?_⟩; refine zDn ?_) | (refine zg5 ?_; intro v hv; refine zDn ?_) | refine zg6 ?_ | refine po_both ?_ ?_ | refine pwt_both ?_ ?_ | refine pwt_fork ?_ | refine pwt_lin ?_ | (refine po_test rfl rfl rfl rfl zB ?_ ?_ <;> intro hb <;> first | exact zX | refine zDn ?_) | (refine zT ?_ ?_ <;> intro h <;> first | exact zX | refine zNq ?_)))
 refine pw_round ?_
 (repeat' (first | (refine zDr [[0,1,2,3,4,5,6,7,8],[9],[10,11],[12]] ?_; refine zDn ?_) | ((refine pw_drawT (.fork [(0, true), (1, true), (2, true), (3, true), (4, true), (5, true), (7, true), (8, true)] 6 (.fork [] 9 (.lin [(10, true), (11, false), (12, false)]) 11 (.lin [(9, false), (10, true), (12, false)])) 11 (.lin [(6, false), (9, false), (10, true), (12, false)])) hmix (by decide +kernel) ?_; refine pwt_fork ?_); refine zDn ?_) | refine zS ?_ | (refine zg1 ?_; intro x j hx hj; refine zNp ?_) | (refine zg2 ?_; intro v hv; refine zNp ?_) | refine zg3 ?_ | refine zD ?_ | (refine zg4 ?_; intro x j hx hj; refine ⟨zLok, ?_⟩; refine zDn ?_) | (refine zg5 ?_; intro v hv; refine zDn ?_) | refine zg6 ?_ | refine po_both ?_ ?_ | refine pwt_both ?_ ?_ | refine pwt_fork ?_ | refine pwt_lin ?_ | (refine po_test rfl rfl rfl rfl zB ?_ ?_ <;> intro hb <;> first | exact zX | refine zDn ?_) | (refine zT ?_ ?_ <;> intro h <;> first | exact zX | refine zNq ?_)))
 refine ⟨_, .sl [.agg [.sl (ps0.map ePort)], .agg [.sl (ps1.map ePort)]], [tape l jj1], rfl, ⟨jj1, ⟨[⟨ps0⟩, ⟨ps1⟩], ⟨by simp, fun c hc => ?_⟩, rfl⟩, hjj1, rfl⟩, .inr (.inr (.inr (.inl ⟨1, 2, 2, 2, 1, _, rfl, rfl, rfl, rfl, rfl⟩))), ⟨.inr (.inl rfl), trivial⟩, rfl, rfl⟩
 simp only [List.mem_cons, List.mem_nil_iff, or_false] at hc
 rcases hc with rfl | rfl
 ·exact ⟨hk0, hpI0⟩
 ·exact ⟨hk1, hpI1⟩
theorem g_open3 (l : List Int) (hl : Tp l) (i : Nat) (hi : i ≤ l.length) (t : Topo) (ht : EdIn t.edges) (hd : t.devs.length = 3) : Gen Gl 23 [eTopo t] l i fun r => ∃ x, CfgsIn x ∧ r = .sl (x.map eCfg) := by
 have hlen := ht.1
 have hS : Small t.edges := by unfold Small; omega
 have hE : ∀ d, (tEdges ⟨t.devs, t.links, t.edges, t.pools, t.tol⟩ d).length ≤ t.edges.length := fun d => tEdges_len _ d
 refine PCalls.of hT Tryz.func23 rfl 1 (Nat.le_refl _) fun B hD => ?_
 refine pw_norm rfl ?_
 (repeat' (first | (refine zDr [[0,1,2,3,4,5,6,7,8],[9],[10,11],[12]] ?_; refine zDn ?_) | ((refine pw_drawT (.fork [(0, true), (1, true), (2, true), (3, true), (4, true), (5, true), (7, true), (8, true)] 6 (.fork [] 9 (.lin [(10, true), (11, false), (12, false)]) 11 (.lin [(9, false), (10, true), (12, false)])) 11 (.lin [(6, false), (9, false), (10, true), (12, false)])) hmix (by decide +kernel) ?_; refine pwt_fork ?_); refine zDn ?_) | refine zS ?_ | (refine zg1 ?_; intro x j hx hj; refine zNp ?_) | (refine zg2 ?_; intro v hv; refine zNp ?_) | refine zg3 ?_ | refine zD ?_ | (refine zg4 ?_; intro x j hx hj; refine ⟨zLok, ?_⟩; refine zDn ?_) | (refine zg5 ?_; intro v hv; refine zDn ?_) | refine zg6 ?_ | refine po_both ?_ ?_ | refine pwt_both ?_ ?_ | refine pwt_fork ?_ | refine pwt_lin ?_ | (refine po_test rfl rfl rfl rfl zB ?_ ?_ <;> intro hb <;> first | exact zX | refine zDn ?_) | (refine zT ?_ ?_ <;> intro h <;> first | exact zX | refine zNq ?_)))
 have hn : PV.int .i64 (t.devs.length : Int) = .int .i64 3 := by rw [hd]; rfl
 refine pl_op rfl (op_makeS .nilsl hT rfl rfl rfl hn hn (by decide) (by decide) (by decide) (by decide) (by decide) rfl rfl ?_)
 refine zNp ?_
 (repeat' (first | (refine zDr [[0,1,2,3,4,5,6,7,8],[9],[10,11],[12]] ?_; refine zDn ?_) | ((refine pw_drawT (.fork [(0, true), (1, true), (2, true), (3, true), (4, true), (5, true), (7, true), (8, true)] 6 (.fork [] 9 (.lin [(10, true), (11, false), (12, false)]) 11 (.lin [(9, false), (10, true), (12, false)])) 11 (.lin [(6, false), (9, false), (10, true), (12, false)])) hmix (by decide +kernel) ?_; refine pwt_fork ?_); refine zDn ?_) | refine zS ?_ | (refine zg1 ?_; intro x j hx hj; refine zNp ?_) | (refine zg2 ?_; intro v hv; refine zNp ?_) | refine zg3 ?_ | refine zD ?_ | (refine zg4 ?_; intro x j hx hj; refine ⟨zLok, ?_⟩; refine zDn ?_) | (refine zg5 ?_; intro v hv; refine zDn ?_) | refine zg6 ?_ | refine po_both ?_ ?_ | refine pwt_both ?_ ?_ | refine pwt_fork ?_ | refine pwt_lin ?_ | (refine po_test rfl rfl rfl rfl zB ?_ ?_ <;> intro hb <;> first | exact zX | refine zDn ?_) | (refine zT ?_ ?_ <;> intro h <;> first | exact zX | refine zNq ?_)))
 refine pw_arrBox 2 rfl rfl (by decide) (by intro c hc; simp at hc; rcases hc with rfl; rfl) ?_
 refine zNq ?_
 refine pw_rounds 7 ?_
 refine pw_round ?_
 (repeat' (first | (refine zDr [[0,1,2,3,4,5,6,7,8],[9],[10,11],[12]] ?_; refine zDn ?_) | ((refine pw_drawT (.fork [(0, true), (1, true), (2, true), (3, true), (4, true), (5, true), (7, true), (8, true)] 6 (.fork [] 9 (.lin [(10, true), (11, false), (12, false)]) 11 (.lin [(9, false), (10, true), (12, false)])) 11 (.lin [(6, false), (9, false), (10, true), (12, false)])) hmix (by decide +kernel) ?_; refine pwt_fork ?_); refine zDn ?_) | refine zS ?_ | (refine zg1 ?_; intro x j hx hj; refine zNp ?_) | (refine zg2 ?_; intro v hv; refine zNp ?_) | refine zg3 ?_ | refine zD ?_ | (refine zg4 ?_; intro x j hx hj; refine ⟨zLok, ?_⟩; refine zDn ?_) | (refine zg5 ?_; intro v hv; refine zDn ?_) | refine zg6 ?_ | refine po_both ?_ ?_ | refine pwt_both ?_ ?_ | refine pwt_fork ?_ | refine pwt_lin ?_ | (refine po_test rfl rfl rfl rfl zB ?_ ?_ <;> intro hb <;> first | exact zX | refine zDn ?_) | (refine zT ?_ ?_ <;> intro h <;> first | exact zX | refine zNq ?_)))
 have hEd0 := hE 0
 generalize tEdges ⟨t.devs, t.links, t.edges, t.pools, t.tol⟩ 0 = E0 at hEd0 ⊢
 refine pw_less (env' := oEnv 3 0 E0) zLe (StLe.refl _) ?_
 refine open_loop_3_0 l hl i hD t ht E0 (by omega) _ hi (fun ps0 jj0 hk0 hpI0 hjj0 => ?_)
 unfold oEnd
 refine zNq ?_
 (repeat' (first | (refine zDr [[0,1,2,3,4,5,6,7,8],[9],[10,11],[12]] ?_; refine zDn ?_) | ((refine pw_drawT (.fork [(0, true), (1, true), (2, true), (3, true), (4, true), (5, true), (7, true), (8, true)] 6 (.fork [] 9 (.lin [(10, true), (11, false), (12, false)]) 11 (.lin [(9, false), (10, true), (12, false)])) 11 (.lin [(6, false), (9, false), (10, true), (12, false)])) hmix (by decide +kernel) ?_; refine pwt_fork ?_); refine zDn ?_) | refine zS ?_ | (refine zg1 ?_; intro x j hx hj; refine zNp ?_) | (refine zg2 ?_; intro v hv; refine zNp ?_) | refine zg3 ?_ | refine zD ?_ | (refine zg4 ?_; intro x j hx hj; refine ⟨zLok, ?_⟩; refine zDn ?_) | (refine zg5 ?_; intro v hv; refine zDn ?_) | refine zg6 ?_ | refine po_both ?_ ?_ | refine pwt_both ?_ ?_ | refine pwt_fork ?_ | refine pwt_lin ?_ | (refine po_test rfl rfl rfl rfl zB ?_ ?_ <;> intro hb <;> first | exact zX | refine zDn ?_) | (refine zT ?_ ?_ <;> intro h <;> first | exact zX | refine zNq ?_)))
 refine pw_round ?_
 (repeat' (first | (refine zDr [[0,1,2,3,4,5,6,7,8],[9],[10,11],[12]] ?_; refine zDn ?_) | ((refine pw_drawT (.fork [(0, true), (1, true), (2, true), (3, true), (4, true), (5, true), (7, true), (8, true)] 6 (.fork [] 9 (.lin [(10, true), (11, false), (12, false)]) 11 (.lin [(9, false), (10, true), (12, false)])) 11 (.lin [(6, false), (9, false), (10, true), (12, false)])) hmix (by decide +kernel) ?_; refine pwt_fork ?_); refine zDn ?_) | refine zS ?_ | (refine zg1 ?_; intro x j hx hj; refine zNp ?_) | (refine zg2 ?_; intro v hv; refine zNp ?_) | refine zg3 ?_ | refine zD ?_ | (refine zg4 ?_; intro x j hx hj; refine ⟨zLok, ?_⟩; refine zDn ?_) | (refine zg5 ?_; intro v hv; refine zDn ?_) | refine zg6 ?_ | refine po_both ?_ ?_ | refine pwt_both ?_ ?_ | refine pwt_fork ?_ | refine pwt_lin ?_ | (refine po_test rfl rfl rfl rfl zB ?_ ?_ <;> intro hb <;> first | exact zX | refine zDn ?_) | (refine zT ?_ ?_ <;> intro h <;> first | exact zX | refine zNq ?_)))
 first | rw [show ((0 : Nat) : Int) + 1 = 1 from rfl] | rw [show (0 : Int) + 1 = 1 from rfl]
 have hEd1 := hE 1
 generalize tEdges ⟨t.devs, t.links, t.edges, t.pools, t.tol⟩ 1 = E1 at hEd1 ⊢
 refine pw_less (env' := oEnv 3 1 E1) zLe (StLe.refl _) ?_
 refine open_loop_3_1 l hl i hD t ht E1 (by omega) (ps0.map ePort) _ hjj0 (fun ps1 jj1 hk1 hpI1 hjj1 => ?_)
 unfold oEnd
 refine zNq ?_
 (repeat' (first | (refine zDr [[0,1,2,3,4,5,6,7,8],[9],[10,11],[12]] ?_; refine zDn ?_) | ((refine pw_drawT (.fork [(0, true), (1, true), (2, true), (3, true), (4, true), (5, true), (7, true), (8, true)] 6 (.fork [] 9 (.lin [(10, true), (11, false), (12, false)]) 11 (.lin [(9, false), (10, true), (12, false)])) 11 (.lin [(6, false), (9, false), (10, true), (12, false)])) hmix (by decide +kernel) ?_; refine pwt_fork ?_); refine zDn ?_) | refine zS ?_ | (refine zg1 ?_; intro x j hx hj; refine zNp ?_) | (refine zg2 ?_; intro v hv; refine zNp ?_) | refine zg3 ?_ | refine zD ?_ | (refine zg4 ?_; intro x j hx hj; refine ⟨zLok, ?_⟩; refine zDn ?_) | (refine zg5 ?_; intro v hv; refine zDn ?_) | refine zg6 ?_ | refine po_both ?_ ?_ | refine pwt_both ?_ ?_ | refine pwt_fork ?_ | refine pwt_lin ?_ | (refine po_test rfl rfl rfl rfl zB ?_ ?_ <;> intro hb <;> first | exact zX | refine zDn ?_) | (refine zT ?_ ?_ <;> intro h <;> first | exact zX | refine zNq ?_)))
 refine pw_round ?_
 (repeat' (first | (refine zDr [[0,1,2,3,4,5,6,7,8],[9],[10,11],[12]] ?_; refine zDn ?_) | ((refine pw_drawT (.fork [(0, true), (1, true), (2, true), (3, true), (4, true), (5, true), (7, true), (8, true)] 6 (.fork [] 9 (.lin [(10, true), (11, false), (12, false)]) 11 (.lin [(9, false), (10, true), (12, false)])) 11 (.lin [(6, false), (9, false), (10, true), (12, false)])) hmix (by decide +kernel) ?_; refine pwt_fork ?_); refine zDn ?_) | refine zS ?_ | (refine zg1 ?_; intro x j hx hj; refine zNp ?_) | (refine zg2 ?_; intro v hv; refine zNp ?_) | refine zg3 ?_ | refine zD ?_ | (refine zg4 ?_; intro x j hx hj; refine ⟨zLok, ?_⟩; refine zDn ?_) | (refine zg5 ?_; intro v hv; refine zDn ?_) | refine zg6 ?_ | refine po_both ?_ ?_ | refine pwt_both ?_ ?_ | refine pwt_fork ?_ | refine pwt_lin ?_ | (refine po_test rfl rfl rfl rfl zB ?_ ?_ <;> intro hb <;> first | exact zX | refine zDn ?_) | (refine zT ?_ ?_ <;> intro h <;> first | exact zX | refine zNq ?_)))
 first | rw [show ((1 : Nat) : Int) + 1 = 2 from rfl] | rw [show (1 : Int) + 1 = 2 from rfl]
 have hEd2 := hE 2
 generalize tEdges ⟨t.devs, t.links, t.edges, t.pools, t.tol⟩ 2 = E2 at hEd2 ⊢
 refine pw_less (env' := oEnv 3 2 E2) zLe (StLe.refl _) ?_
 refine open_loop_3_2 l hl i hD t ht E2 (by omega) (ps0.map ePort) (ps1.map ePort) _ hjj1 (fun ps2 jj2 hk2 hpI2 hjj2 => ?_)
 unfold oEnd
 refine pw_boxRow 2 [.agg [.sl (ps0.map ePort)], .agg [.sl (ps1.map ePort)], .agg [.sl (ps2.map ePort)]] rfl rfl rfl (by simp [maxLen]) ?_
 refine zNq ?_
 (repeat' (first | (refine zDr [[0,1,2,3,4,5,6,7,8],[9],[10,11],[12]] ?_; refine zDn ?_) | ((refine pw_drawT (.fork [(0, true), (1, true), (2, true), (3, true), (4, true), (5, true), (7, true), (8, true)] 6 (.fork [] 9 (.lin [(10, true), (11, false), (12, false)]) 11 (.lin [(9, false), (10, true), (12, false)])) 11 (.lin [(6, false), (9, false), (10, true), (12, false)])) hmix (by decide +kernel) ?_; refine pwt_fork ?_); refine zDn ?_) | refine zS ?_ | (refine zg1 ?_; intro x j hx hj; refine zNp ?_) | (refine zg2 ?_; intro v hv; refine zNp ?_) | refine zg3 ?_ | refine zD ?_ | (refine zg4 ?_; intro x j hx hj; refine ⟨zLok, ?_⟩; refine zDn ?_) | (refine zg5 ?_; intro v hv; refine zDn ?_) | refine zg6 ?_ | refine po_both ?_ ?_ | refine pwt_both ?_ ?_ | refine pwt_fork ?_ | refine pwt_lin ?_ | (refine po_test rfl rfl rfl rfl zB ?_ ?_ <;> intro hb <;> first | exact zX | refine zDn ?_) | (refine zT ?_ ?_ <;> intro h <;> first | exact zX | refine zNq ?_)))
 refine pw_round ?_
 (repeat' (first | (refine zDr [[0,1,2,3,4,5,6,7,8],[9],[10,11],[12]] ?_; refine zDn ?_) | ((refine pw_drawT (.fork [(0, true), (1, true), (2, true), (3, true), (4, true), (5, true), (7, true), (8, true)] 6 (.fork [] 9 (.lin [(10, true), (11, false), (12, false)]) 11 (.lin [(9, false), (10, true), (12, false)])) 11 (.lin [(6, false), (9, false), (10, true), (12, false)])) hmix (by decide +kernel) ?_; refine pwt_fork ?_); refine zDn ?_) | refine zS ?_ | (refine zg1 ?_; intro x j hx hj; refine zNp ?_) | (refine zg2 ?_; intro v hv; refine zNp ?_) | refine zg3 ?_ | refine zD ?_ | (refine zg4 ?_; intro x j hx hj; refine ⟨zLok, ?_⟩; refine zDn ?_) | (refine zg5 ?_; intro v hv; refine zDn ?_) | refine zg6 ?_ | refine po_both ?_ ?_ | refine pwt_both ?_ ?_ | refine pwt_fork ?_ | refine pwt_lin ?_ | (refine po_test rfl rfl rfl rfl zB ?_ ?_ <;> intro hb <;> first | exact zX | refine zDn ?_) | (refine zT ?_ ?_ <;> intro h <;> first | exact zX | refine zNq ?_)))
 refine ⟨_, .sl [.agg [.sl (ps0.map ePort)], .agg [.sl (ps1.map ePort)], .agg [.sl (ps2.map ePort)]], [tape l jj2], rfl, ⟨jj2, ⟨[⟨ps0⟩, ⟨ps1⟩, ⟨ps2⟩], ⟨by simp, fun c hc => ?_⟩, rfl⟩, hjj2, rfl⟩, .inr (.inr (.inr (.inl ⟨1, 2, 3, 3, 1, _, rfl, rfl, rfl, rfl, rfl⟩))), ⟨.inr (.inl rfl), trivial⟩, rfl, rfl⟩
 simp only [List.mem_cons, List.mem_nil_iff, or_false] at hc
 rcases hc with rfl | rfl | rfl
 ·exact ⟨hk0, hpI0⟩
 ·exact ⟨hk1, hpI1⟩
 ·exact ⟨hk2, hpI2⟩
theorem g_open0 (l : List Int) (_hl : Tp l) (i : Nat) (hi : i ≤ l.length) (t : Topo) (hd : t.devs.length = 0) : Gen Gl 23 [eTopo t] l i fun r => ∃ x, CfgsIn x ∧ r = .sl (x.map eCfg) := by
 refine PCalls.of hT Tryz.func23 rfl 1 (Nat.le_refl _) fun B hD => ?_
 refine pw_norm rfl ?_
 (repeat' (first | (refine zDr [[0,1,2,3,4,5,6,7,8],[9],[10,11],[12]] ?_; refine zDn ?_) | ((refine pw_drawT (.fork [(0, true), (1, true), (2, true), (3, true), (4, true), (5, true), (7, true), (8, true)] 6 (.fork [] 9 (.lin [(10, true), (11, false), (12, false)]) 11 (.lin [(9, false), (10, true), (12, false)])) 11 (.lin [(6, false), (9, false), (10, true), (12, false)])) hmix (by decide +kernel) ?_; refine pwt_fork ?_); refine zDn ?_) | refine zS ?_ | (refine zg1 ?_; intro x j hx hj; refine zNp ?_) | (refine zg2 ?_; intro v hv; refine zNp ?_) | refine zg3 ?_ | refine zD ?_ | (refine zg4 ?_; intro x j hx hj; refine ⟨zLok, ?_⟩; refine zDn ?_) | (refine zg5 ?_; intro v hv; refine zDn ?_) | refine zg6 ?_ | refine po_both ?_ ?_ | refine pwt_both ?_ ?_ | refine pwt_fork ?_ | refine pwt_lin ?_ | (refine po_test rfl rfl rfl rfl zB ?_ ?_ <;> intro hb <;> first | exact zX | refine zDn ?_) | (refine zT ?_ ?_ <;> intro h <;> first | exact zX | refine zNq ?_)))
 have hn : PV.int .i64 (t.devs.length : Int) = .int .i64 0 := by rw [hd]; rfl
 refine pl_op rfl (op_makeS .nilsl hT rfl rfl rfl hn hn (by decide) (by decide) (by decide) (by decide) (by decide) rfl rfl ?_)
 refine zNp ?_
 (repeat' (first | (refine zDr [[0,1,2,3,4,5,6,7,8],[9],[10,11],[12]] ?_; refine zDn ?_) | ((refine pw_drawT (.fork [(0, true), (1, true), (2, true), (3, true), (4, true), (5, true), (7, true), (8, true)] 6 (.fork [] 9 (.lin [(10, true), (11, false), (12, false)]) 11 (.lin [(9, false), (10, true), (12, false)])) 11 (.lin [(6, false), (9, false), (10, true), (12, false)])) hmix (by decide +kernel) ?_; refine pwt_fork ?_); refine zDn ?_) | refine zS ?_ | (refine zg1 ?_; intro x j hx hj; refine zNp ?_) | (refine zg2 ?_; intro v hv; refine zNp ?_) | refine zg3 ?_ | refine zD ?_ | (refine zg4 ?_; intro x j hx hj; refine ⟨zLok, ?_⟩; refine zDn ?_) | (refine zg5 ?_; intro v hv; refine zDn ?_) | refine zg6 ?_ | refine po_both ?_ ?_ | refine pwt_both ?_ ?_ | refine pwt_fork ?_ | refine pwt_lin ?_ | (refine po_test rfl rfl rfl rfl zB ?_ ?_ <;> intro hb <;> first | exact zX | refine zDn ?_) | (refine zT ?_ ?_ <;> intro h <;> first | exact zX | refine zNq ?_)))
 refine pw_rounds 7 ?_
 refine pw_round ?_
 (repeat' (first | (refine zDr [[0,1,2,3,4,5,6,7,8],[9],[10,11],[12]] ?_; refine zDn ?_) | ((refine pw_drawT (.fork [(0, true), (1, true), (2, true), (3, true), (4, true), (5, true), (7, true), (8, true)] 6 (.fork [] 9 (.lin [(10, true), (11, false), (12, false)]) 11 (.lin [(9, false), (10, true), (12, false)])) 11 (.lin [(6, false), (9, false), (10, true), (12, false)])) hmix (by decide +kernel) ?_; refine pwt_fork ?_); refine zDn ?_) | refine zS ?_ | (refine zg1 ?_; intro x j hx hj; refine zNp ?_) | (refine zg2 ?_; intro v hv; refine zNp ?_) | refine zg3 ?_ | refine zD ?_ | (refine zg4 ?_; intro x j hx hj; refine ⟨zLok, ?_⟩; refine zDn ?_) | (refine zg5 ?_; intro v hv; refine zDn ?_) | refine zg6 ?_ | refine po_both ?_ ?_ | refine pwt_both ?_ ?_ | refine pwt_fork ?_ | refine pwt_lin ?_ | (refine po_test rfl rfl rfl rfl zB ?_ ?_ <;> intro hb <;> first | exact zX | refine zDn ?_) | (refine zT ?_ ?_ <;> intro h <;> first | exact zX | refine zNq ?_)))
 exact ⟨_, .sl [], [tape l i], rfl, ⟨i, ⟨[], ⟨by decide, fun c hc => by cases hc⟩, rfl⟩, hi, rfl⟩, .inr (.inr (.inr (.inl ⟨1, 2, 0, 0, 1, _, rfl, rfl, rfl, rfl, rfl⟩))), ⟨.inr (.inl rfl), trivial⟩, rfl, rfl⟩
instance openC : OpenC Gl := ⟨fun t ht hd l hl i hi => by
 have h : t.devs.length = 0 ∨ t.devs.length = 1 ∨ t.devs.length = 2 ∨ t.devs.length = 3 := by omega
 rcases h with h | h | h | h
 ·exact g_open0 l hl i hi t h
 ·exact g_open1 l hl i hi t ht h
 ·exact g_open2 l hl i hi t ht h
 ·exact g_open3 l hl i hi t ht h⟩

end
end Go.Proofs.YtokclomhkggikaaGreatDoor