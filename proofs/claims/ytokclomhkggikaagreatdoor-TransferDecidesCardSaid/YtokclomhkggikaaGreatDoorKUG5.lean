/-
 The port of an edge.
 A generator's call where the tape is any object of the store.
-/
import Derived.Test.YtokclomhkggikaaGreatDoorKUG3
import Derived.Test.YtokclomhkggikaaGreatDoorKU5
import Derived.Test.YtokclomhkggikaaGreatDoorKU4
set_option maxHeartbeats 20000000
set_option maxRecDepth 100000
namespace Go.Proofs.YtokclomhkggikaaGreatDoor
open Go Go.Pw
section
variable {Gl : Glob}
attribute [local irreducible] PW PWL OpP PCalls PWO bokB hinB bhas PWT bothT
def FoundIn (l : List TCfg) (p : TPort) : Prop := p = port0 ∨ ∃ c ∈ l, p ∈ c.ports
theorem portNil (st : List PObj) : FLe (fun i => decide (0 ≤ i)) st 3 (.agg [.int .i64 0, .nilsl, .nilsl, .nilsl, .nilsl, .nilsl]) (ePort port0) :=
 .inr (.inr (.inr (.inr (.inl ⟨_, _, rfl, rfl, .inr (.inl rfl), .inr (.inr (.inl ⟨rfl, rfl⟩)), .inr (.inr (.inl ⟨rfl, rfl⟩)), .inr (.inr (.inl ⟨rfl, rfl⟩)), .inr (.inr (.inl ⟨rfl, rfl⟩)), .inr (.inr (.inl ⟨rfl, rfl⟩)), trivial⟩))))
theorem c_rFind (l : List TCfg) (e : Int) (hl : l.length < 1000000) (hp : ∀ c ∈ l, c.ports.length < 1000000) : PFun Tryz.prog Gl 24 [.sl (l.map eCfg), .int .i64 e] fun r => ∃ p, FoundIn l p ∧ r = ePort p := by
 (refine PFun.of hT Tryz.func24 rfl fun B hD => ?_; refine pw_norm rfl ?_)
 (repeat' (first | refine zS ?_ | (refine zT ?_ ?_ <;> intro h <;> first | exact zX | refine zNq ?_)))
 refine pw_for hD (fun i : Nat => [(5, .int .i64 i)]) (fun _ => [.box [.int .i64 0, .nilsl, .nilsl, .nilsl, .nilsl, .nilsl]]) (fun i => i ≤ l.length) (fun i => l.length - i) 0 (Nat.zero_le _) 1 rfl (fun _ => rfl) zLes (fun _ => rfl) (fun _ => rfl) zLe ?_
 rintro i hi
 refine zNq ?_
 (repeat' (first | refine zS ?_ | (refine zT ?_ ?_ <;> intro h <;> first | exact zX | refine zNq ?_)))
 ·have hk : (l.getD i default).ports.length < 1000000 := hp _ (getD_mem (show i < l.length by omega))
  refine pw_for hD (fun k : Nat => [(6, .int .i64 k)]) (fun _ => [.box [.int .i64 0, .nilsl, .nilsl, .nilsl, .nilsl, .nilsl]]) (fun k => k ≤ (l.getD i default).ports.length) (fun k => (l.getD i default).ports.length - k) 0 (Nat.zero_le _) 1 rfl (fun _ => rfl) zLes (fun _ => rfl) (fun _ => rfl) zLe ?_
  rintro k hk2
  refine zNq ?_
  (repeat' (first | refine zS ?_ | (refine zT ?_ ?_ <;> intro h <;> first | exact zX | refine zNq ?_)))
  ·exact ret1 _ rfl ⟨(l.getD i default).ports.getD k default, .inr ⟨_, getD_mem (show i < l.length by omega), getD_mem (show k < (l.getD i default).ports.length by omega)⟩, rfl⟩ rfl
  ·exact ⟨k + 1, by omega, by omega, zLe, zLes⟩
  ·exact ⟨i + 1, by omega, by omega, zLe, zLes⟩
 ·exact ret0 _ _ rfl ⟨port0, .inl rfl, rfl⟩ (portNil _) rfl
structure PortIn (p : TPort) : Prop where
 ing : TabIn 4 p.ing
 egr : TabIn 4 p.egr
 steers : p.steers.length ≤ 1 ∧ ∀ s ∈ p.steers, BoxIn s.m
 moves : p.moves.length ≤ 1 ∧ ∀ s ∈ p.moves, MoveIn s
 hides : p.hides.length ≤ 1 ∧ ∀ s ∈ p.hides, BoxIn s.m
theorem port0_in : PortIn port0 := ⟨⟨by decide, fun _ h => by cases h⟩, ⟨by decide, fun _ h => by cases h⟩, ⟨by decide, fun _ h => by cases h⟩, ⟨by decide, fun _ h => by cases h⟩, ⟨by decide, fun _ h => by cases h⟩⟩
def CfgsIn (l : List TCfg) : Prop := l.length < 1000 ∧ ∀ c ∈ l, c.ports.length < 1000 ∧ ∀ p ∈ c.ports, PortIn p
theorem FoundIn.is {l : List TCfg} {p : TPort} (hl : CfgsIn l) (h : FoundIn l p) : PortIn p := by
 rcases h with rfl | ⟨c, hc, hp⟩
 ·exact port0_in
 ·exact (hl.2 c hc).2 p hp
theorem PortIn.at {p : TPort} (h : PortIn p) (e : Int) : PortIn ⟨e, p.ing, p.egr, p.moves, p.hides, p.steers⟩ := ⟨h.ing, h.egr, h.steers, h.moves, h.hides⟩
def PairIn (t : Topo) (x : TPort × TPort) : Prop := PortIn x.1 ∧ PortIn x.2 ∧ (-1 ≤ x.1.edge ∧ x.1.edge ≤ t.edges.length) ∧ 0 ≤ x.2.edge ∧ x.2.edge ≤ t.edges.length
def ePair (x : TPort × TPort) : PV := .tup [ePort x.1, ePort x.2]
theorem g_lawPorts (l : List Int) (hl : Tp l) (i : Nat) (hi : i ≤ l.length) (t : Topo) (ht : EdIn t.edges) (hO : ∀ (l : List Int), Tp l → ∀ (i : Nat), i ≤ l.length → Gen Gl 23 [eTopo t] l i fun r => ∃ x, CfgsIn x ∧ r = .sl (x.map eCfg)) : Gen Gl 8 [eTopo t] l i fun r => ∃ x, PairIn t x ∧ r = ePair x := by
 have hlen := ht.1
 haveI iO : GenC Gl 23 [.agg [.sl (t.devs.map eDev), .sl (t.links.map eLink), .sl (t.edges.map eEdge), .sl (t.pools.map ePfx), .int .i64 t.tol]] True (List TCfg) CfgsIn (fun x => .sl (x.map eCfg)) := ⟨e23, fun _ => hO⟩
 refine PCalls.of hT Tryz.func8 rfl 1 (Nat.le_refl _) fun B hD => ?_
 refine pw_norm rfl ?_
 (repeat' (first | (refine zDr [[0,1,2,3,4,6,7,8,9,10],[5,11],[12,13]] ?_; refine zDn ?_) | (refine zDr [[0,1],[2,3]] ?_; refine zDn ?_) | refine zS ?_ | (refine zg1 ?_; intro x j hx hj; refine zNp ?_) | (refine zg2 ?_; intro v hv; refine zNp ?_) | refine zg3 ?_ | refine zD ?_ | (refine zg4 ?_; intro x j hx hj; refine ⟨zLok, ?_⟩; refine zDn ?_) | (refine zg5 ?_; intro v hv; refine zDn ?_) | refine zg6 ?_ | refine po_both ?_ ?_ | refine pwt_both ?_ ?_ | refine pwt_fork ?_ | refine pwt_lin ?_ | (refine po_test rfl rfl rfl rfl zB ?_ ?_ <;> intro hb <;> first | exact zX | refine zDn ?_) | (refine zT ?_ ?_ <;> intro h <;> first | exact zX | refine zNq ?_)))
 all_goals rename List TCfg => L
 all_goals rename CfgsIn L => hL
 all_goals
  have hL1 : L.length < 1000000 := by have := hL.1; omega
  have hL2 : ∀ c ∈ L, c.ports.length < 1000000 := fun c hc => by have := (hL.2 c hc).1; omega
  refine pl_op rfl (op_fun (c_rFind L _ hL1 hL2) rfl rfl e24 zLe rfl (fun r hr => ?_))
  obtain ⟨p, hp, rfl⟩ := hr
  refine ⟨rfl, ?_⟩
  refine zNp ?_
  (repeat' (first | (refine zDr [[0,1,2,3,4,6,7,8,9,10],[5,11],[12,13]] ?_; refine zDn ?_) | (refine zDr [[0,1],[2,3]] ?_; refine zDn ?_) | refine zS ?_ | (refine zg1 ?_; intro x j hx hj; refine zNp ?_) | (refine zg2 ?_; intro v hv; refine zNp ?_) | refine zg3 ?_ | refine zD ?_ | (refine zg4 ?_; intro x j hx hj; refine ⟨zLok, ?_⟩; refine zDn ?_) | (refine zg5 ?_; intro v hv; refine zDn ?_) | refine zg6 ?_ | refine po_both ?_ ?_ | refine pwt_both ?_ ?_ | refine pwt_fork ?_ | refine pwt_lin ?_ | (refine po_test rfl rfl rfl rfl zB ?_ ?_ <;> intro hb <;> first | exact zX | refine zDn ?_) | (refine zT ?_ ?_ <;> intro h <;> first | exact zX | refine zNq ?_)))
  refine pl_op rfl (op_fun (c_rFind L _ hL1 hL2) rfl rfl e24 zLe rfl (fun r hr => ?_))
  obtain ⟨q, hq, rfl⟩ := hr
  refine ⟨rfl, ?_⟩
  refine zNp ?_
  (repeat' (first | (refine zDr [[0,1,2,3,4,6,7,8,9,10],[5,11],[12,13]] ?_; refine zDn ?_) | (refine zDr [[0,1],[2,3]] ?_; refine zDn ?_) | refine zS ?_ | (refine zg1 ?_; intro x j hx hj; refine zNp ?_) | (refine zg2 ?_; intro v hv; refine zNp ?_) | refine zg3 ?_ | refine zD ?_ | (refine zg4 ?_; intro x j hx hj; refine ⟨zLok, ?_⟩; refine zDn ?_) | (refine zg5 ?_; intro v hv; refine zDn ?_) | refine zg6 ?_ | refine po_both ?_ ?_ | refine pwt_both ?_ ?_ | refine pwt_fork ?_ | refine pwt_lin ?_ | (refine po_test rfl rfl rfl rfl zB ?_ ?_ <;> intro hb <;> first | exact zX | refine zDn ?_) | (refine zT ?_ ?_ <;> intro h <;> first | exact zX | refine zNq ?_)))
  have hp' := hp.is hL
  have hq' := hq.is hL
 all_goals exact ret_gen (e := ePair) j (⟨_, p.ing, p.egr, p.moves, p.hides, p.steers⟩, ⟨_, q.ing, q.egr, q.moves, q.hides, q.steers⟩) _ rfl ⟨hp'.at _, hq'.at _, ⟨by dsimp only; omega, by dsimp only; omega⟩, by dsimp only; omega, by dsimp only; omega⟩ hj rfl rfl (fun _ => rfl)
end
section
variable {Gl : Glob}
section
variable {B : Base} {env : List PV} {st : List PObj} {o : Oper}
theorem merge_set (J : Nat) (y : PObj) (st : List PObj) : merge [J] st [y] = st.set J y := by
 unfold merge
 simp only [List.length_cons, List.length_nil, List.drop_succ_cons, List.drop_nil, List.append_nil]
 refine List.ext_getElem? fun i => ?_
 rw [mergeAux_get, Nat.zero_add, List.getElem?_set]
 by_cases h : J = i
 ·subst h
  rw [if_pos rfl]
  by_cases hl : J < st.length
  ·rw [if_pos hl, List.getElem?_eq_getElem hl]
   simp
  ·rw [if_neg hl, List.getElem?_eq_none (by omega)]
   rfl
 ·rw [if_neg h]
  have : ([J].contains i) = false := by simp; omega
  simp only [this, Bool.false_eq_true, if_false, Option.map_id']
theorem op_genJ (J : Nat) {K : PV → List PObj → Prop} {fop : Operand} {args : Array Operand} {ats : Array TypeId} {f : FuncId} {full : List PV} {l : List Int} {i : Nat} {α : Type} {R : α → Prop} {e : α → PV} {pre : Prop}
  (ho : o.op = .call ⟨.value fop, args, ats⟩) (hf : pe env fop = .fn f []) (hn : (forceV (args.toList.map (pe env)) fun q => some q) = some (.ptr J 0 :: full)) (hst : st[J]? = some (tape l i)) (hc : GenC Gl f full pre α R e) (hp : pre) (hl : Tp l) (hi : i ≤ l.length)
  (hr : full.all (PV.refs (fun _ => false) 5) = true) (he : ∀ x, (e x).refs (fun _ => false) 5 = true) (hK : ∀ (x : α) (j : Nat), R x → j ≤ l.length → K (e x) (st.set J (tape l j))) : OpP Tryz.prog Gl B o env st K := by
 rw [forceV_eq] at hn
 have hn : args.toList.map (pe env) = .ptr J 0 :: full := by injection hn
 have hcs : ∀ j : Nat, ([.sl (l.map eInt), .int .i64 j] : List PV).all (PV.refs (fun _ => false) 5) = true := fun _ => rfl
 have hg : st.getD J .dead = tape l i := by rw [List.getD, hst]; rfl
 refine op_call [J] ho hf hc.ent (by simp) (by simp only [List.all_cons, List.all_nil, hg, Bool.and_true]; rfl) ?_ ?_ (cargs := .ptr 0 0 :: full) (cst := [tape l i]) ?_ ?_ (hc.gen hp l hl i hi) ?_
 ·rw [hn, List.append_nil, List.all_cons, Bool.and_eq_true]
  exact ⟨by simp [PV.refs], List.all_eq_true.2 fun p hp' => PV.refs_mono (fun _ h => by cases h) 5 p (List.all_eq_true.1 hr p hp')⟩
 ·simp only [List.all_cons, List.all_nil, hg, Bool.and_true]
  rfl
 ·rw [hn, List.append_nil, List.map_cons]
  have : full.map (PV.ren (idxIn [J]) 5) = full := (List.map_congr_left (g := id) fun p hp' => PV.ren_none 5 p (List.all_eq_true.1 hr p hp')).trans (List.map_id _)
  rw [this]
  exact ⟨.inr (.inl (by simp [PV.ren, idxIn])), Le.refl _⟩
 ·show StLe [(st.getD J .dead).ren (idxIn [J]) 5] [tape l i]
  rw [hg]
  unfold tape
  rw [PObj.ren_none (hcs i)]
  exact StLe.refl _
 ·rintro r s ⟨j, ⟨x, hx, rfl⟩, hj, rfl⟩
  refine ⟨PV.refs_true (he x), rfl, ?_⟩
  rw [PV.ren_none 5 _ (he x)]
  have hm : merge [J] st ([tape l j].map (PObj.ren (idxOut [J] st.length) 5)) = st.set J (tape l j) := by
   rw [show [tape l j].map (PObj.ren (idxOut [J] st.length) 5) = [tape l j] from by unfold tape; simp only [List.map_cons, List.map_nil, PObj.ren_none (hcs j)]]
   exact merge_set J _ st
  rw [hm]
  exact hK x j hx hj
end
end
section
variable {Gl : Glob}
attribute [local irreducible] PW PWL OpP PCalls PWO PWT bothT
def names6 : List Str := [[114, 49], [114, 50], [114, 51], [114, 52], [114, 53], [114, 54]]
def caps6 : List Int := [4096, 400, 60, 20, 5, 0]
def cls3 : List Str := [[], [105, 112, 115], [100, 108, 112]]
def costs4 : List Int := [1, 2, 3, 1000]
def names5 : List Str := [[101, 49], [101, 50], [101, 51], [101, 52], [101, 53]]
def zones3 : List Str := [[108, 97, 110], [100, 109, 122], [110, 101, 116]]
def count6 : List Int := [2, 3, 4, 1, 5, 0]
def tol5 : List Int := [0, 1, 0, 1, 2]
structure DevG (i : Nat) (d : TDev) : Prop where
 name : d.name = names6.getD i []
 cap : d.cap ∈ caps6
 cls : d.cls ∈ cls3
structure LinkG (n : Nat) (x : TLink) : Prop where
 a0 : 0 ≤ x.a
 ab : x.a < x.b
 bn : x.b < n
 cost : x.cost ∈ costs4
structure EdgeG (n i : Nat) (e : TEdge) : Prop where
 name : e.name = names5.getD i []
 d0 : 0 ≤ e.dev
 dn : e.dev < n
 zone : e.zone ∈ zones3
 pfx : e.pfx = subnets.getD i ⟨0, 0⟩
 planned : e.planned = false
structure GTop (n : Nat) (t : Topo) : Prop where
 devs : ∀ (i : Nat) d, t.devs[i]? = some d → DevG i d
 links : ∀ x ∈ t.links, LinkG n x
 edges : ∀ (i : Nat) e, t.edges[i]? = some e → EdgeG n i e
theorem snoc_get {α : Type} {p : Nat → α → Prop} {l : List α} {x : α} (h : ∀ (i : Nat) d, l[i]? = some d → p i d) (hx : p l.length x) : ∀ (i : Nat) d, (l ++ [x])[i]? = some d → p i d := by
 intro i d hd
 rcases Nat.lt_trichotomy i l.length with h1 | h1 | h1
 ·rw [List.getElem?_append_left h1] at hd; exact h i d hd
 ·subst h1; simp at hd; subst hd; exact hx
 ·rw [List.getElem?_append_right (by omega), List.getElem?_eq_none (by simp; omega)] at hd; cases hd
def pool1 : TPfx := ⟨168296448, 22⟩
def pool2 : TPfx := ⟨167772672, 24⟩
structure TGen (n : Nat) (t : Topo) : Prop extends GTop n t where
 n1 : 1 ≤ n
 n6 : n ≤ 6
 dl : t.devs.length = n
 ll : t.links.length ≤ n + 3
 el : t.edges.length ≤ 5
 pools : t.pools = [] ∨ t.pools = [pool1] ∨ t.pools = [pool2] ∨ t.pools = [pool1, pool2]
 tol : t.tol ∈ tol5
def gbox : PObj := .box [.nilsl, .nilsl, .nilsl, .nilsl, .int .i64 0]
def gS (l : List Int) (t : Topo) (c : Caps) (j : Nat) : List PObj := tape l j :: gbox :: .box (mTopo 3 t c) :: aTopo t c
def GenPost (l : List Int) (φ : Topo → Prop) (r : PV) (s : List PObj) : Prop := ∃ (j : Nat) (t : Topo) (c : Caps), φ t ∧ j ≤ l.length ∧ r = .agg (mTopo 3 t c) ∧ s = tape l j :: .dead :: .dead :: aTopo t c
theorem c12 (l : List Int) (hl : Tp l) (j : Nat) (hj : j ≤ l.length) (n : Nat) (h1 : 1 ≤ n) (h2 : n ≤ 1000) : PCalls Tryz.prog Gl 7 [.ptr 0 0, .int .i64 n] [tape l j] (GenPost l fun t => ∃ m, m ≤ n ∧ TGen m t) := by
 refine PCalls.of hT Tryz.func7 rfl 7 (Nat.le_of_ble_eq_true rfl) fun B hD => ?_
 refine pw_norm rfl ?_
 (refine zGo ?_)
 (refine pl_op rfl (op_of (v_min rfl rfl rfl) ?_); (refine zNp ?_))
 have hmin : min (n : Int) 6 = ((min n 6 : Nat) : Int) := by omega
 rw [hmin]
 (refine pl_op rfl (zCl [0] e21 (c13n l hl j hj (min n 6) (by omega) (by omega)) (fun r s hq => ?_)); obtain ⟨j1, ⟨m1, hm1, rfl⟩, hj1, rfl⟩ := hq; refine ⟨rfl, rfl, ?_⟩; (refine zNp ?_))
 (refine zGo ?_)
 rw [show (1 : Int) + (m1 : Int) = ((1 + m1 : Nat) : Int) by omega]
 generalize hmm : 1 + m1 = m
 have hm : 1 ≤ m ∧ m ≤ 6 ∧ m ≤ n := by omega
 clear hmin hm1 hmm
 refine pw_ghost 5 ?_
 refine pw_ghost 3 ?_
 refine pw_ghost 6 ?_
 refine pw_ghost 2 ?_
 refine pw_norm rfl ?_
 refine pw_for hD (fun a : Nat × Topo × Caps × Nat => [(6, .int .i64 a.1)]) (fun a => gS l a.2.1 a.2.2.1 a.2.2.2)
  (fun a => a.1 ≤ m ∧ a.2.2.2 ≤ l.length ∧ GTop m a.2.1 ∧ a.2.1.devs.length = a.1 ∧ a.2.1.links.length ≤ a.1 ∧ a.2.1.edges = [] ∧ a.2.1.pools = []) (fun a => m - a.1) (0, ⟨[], [], [], [], 0⟩, (0, 0, 0, 0), j1) ⟨by omega, hj1, ⟨by simp, by simp, by simp⟩, rfl, Nat.le_refl _, rfl, rfl⟩ 7 rfl (fun _ => rfl)
  ⟨.inl rfl, .inl rfl, .inr (.inr ⟨_, _, rfl, rfl, zLe⟩), .inl rfl, .inl rfl, .inl rfl, .inl rfl, trivial⟩ (fun _ => rfl) (fun _ => rfl) zLe ?_
 rintro ⟨i, t, c, j⟩ ⟨hi, hj, ht, hdl, hll, hee, hpe⟩
 dsimp only at hi hj ht hdl hll hee hpe ⊢
 (refine zGo ?_)
 refine pw_cond rfl (fun h => ?_) (fun h => ?_)
 ·simp only [decide_eq_true_eq] at h
  have him : i < m := by omega
  (refine zGo ?_)
  refine pw_joinX hD (fun x : Nat × Nat => x.1 < 6 ∧ x.2 ≤ l.length) (fun _ => [(7, .ptr 7 0)]) (fun x => gS l t c x.2 ++ [.box [.str (names6.getD i []), .int .i64 (caps6.getD x.1 0), .bool false, .bool false, .str []]]) 8 rfl (fun _ => rfl) (fun _ => rfl) (fun _ => rfl) ?_ ?_
  ·refine pw_drawF [(0, true), (1, true), (2, true), (3, true), (4, true), (5, true)] 6 [(7, true), (8, true), (9, true), (10, false), (11, false)] 10 [(6, false), (7, true), (8, true), (9, true), (11, false)] hmix (by decide +kernel) ?_
   (refine zDgo ?_)
   (refine po_make rfl rfl (fun st' K hK => op_litF hT rfl rfl rfl rfl rfl (by decide) rfl rfl rfl rfl hK) ?_; refine zDn ?_)
   (refine zDgo ?_)
   (refine po_val rfl rfl (v_index (p := .str (names6.getD i [])) hT rfl rfl rfl rfl (by omega) (lit_at .str names6 i [] (by show i < 6; omega)) rfl) ?_; refine zDn ?_)
   (refine zDgo ?_)
   (refine po_make rfl rfl (fun st' K hK => op_litF hT rfl rfl rfl rfl rfl (by decide) rfl rfl rfl rfl hK) ?_; refine zDn ?_)
   (refine zDgo ?_)
   refine ⟨?_, ?_⟩
   ·(refine po_step rfl rfl (zCl [0] e21 (c13n l hl j hj 6 (by decide) (by decide)) (fun r s hq => ?_)); obtain ⟨j2, ⟨k, hk, rfl⟩, hj2, rfl⟩ := hq; refine ⟨rfl, rfl, zLok, ?_⟩; refine zDn ?_)
    (refine zDgo ?_)
    (refine po_val rfl rfl (v_index (p := .int .i64 (caps6.getD k 0)) hT rfl rfl rfl rfl (by omega) (lit_at (.int .i64) caps6 k 0 hk) rfl) ?_; refine zDn ?_)
    (refine zDgo ?_)
    exact ⟨(k, j2), ⟨hk, hj2⟩, zLe, zLes⟩
   ·(refine zDgo ?_)
    (refine po_step rfl rfl (zCl [0] e21 (c13n l hl j hj 6 (by decide) (by decide)) (fun r s hq => ?_)); obtain ⟨j2, ⟨k, hk, rfl⟩, hj2, rfl⟩ := hq; refine ⟨rfl, rfl, zLok, ?_⟩; refine zDn ?_)
    (refine zDgo ?_)
    (refine po_val rfl rfl (v_index (p := .int .i64 (caps6.getD k 0)) hT rfl rfl rfl rfl (by omega) (lit_at (.int .i64) caps6 k 0 hk) rfl) ?_; refine zDn ?_)
    (refine zDgo ?_)
    exact ⟨(k, j2), ⟨hk, hj2⟩, zLe, zLes⟩
  rintro ⟨k, j2⟩ ⟨hk, hj2⟩
  dsimp only at hk hj2 ⊢
  have hcapM : caps6.getD k 0 ∈ caps6 := getD_mem hk
  generalize caps6.getD k 0 = cap at hcapM ⊢
  (refine zGo ?_)
  (refine pl_op rfl (zCl [0] e21 (c13n l hl j2 hj2 3 (by decide) (by decide)) (fun r s hq => ?_)); obtain ⟨j3, ⟨k3, hk3, rfl⟩, hj3, rfl⟩ := hq; refine ⟨rfl, rfl, ?_⟩; (refine zNp ?_))
  (refine zGo ?_)
  (refine pl_op rfl (zCl [0] e21 (c13n l hl j3 hj3 3 (by decide) (by decide)) (fun r s hq => ?_)); obtain ⟨j4, ⟨k4, hk4, rfl⟩, hj4, rfl⟩ := hq; refine ⟨rfl, rfl, ?_⟩; (refine zNp ?_))
  (refine zGo ?_)
  (refine pl_op rfl (zCl [0] e21 (c13n l hl j4 hj4 3 (by decide) (by decide)) (fun r s hq => ?_)); obtain ⟨j5, ⟨k5, hk5, rfl⟩, hj5, rfl⟩ := hq; refine ⟨rfl, rfl, ?_⟩; (refine zNp ?_))
  (refine pl_op rfl (op_of (v_index (p := .str (cls3.getD k5 [])) hT rfl rfl rfl rfl (by omega) (lit_at .str cls3 k5 [] hk5) rfl) ?_); (refine zNp ?_))
  (refine zGo ?_)
  have hcls : cls3.getD k5 [] ∈ cls3 := getD_mem hk5
  generalize cls3.getD k5 [] = cls at hcls ⊢
  (refine pl_append (b := 48) hT hD rfl rfl rfl rfl rfl rfl rfl rfl (.inl (Nat.zero_lt_succ _)) rfl rfl (by simp; omega) (fun cap' _ hcap => ?_); (refine zNp ?_))
  (refine zGo ?_)
  have hd2 := snoc_get (p := DevG) (x := ⟨names6.getD i [], cap, (k3 : Int) == 1, (k4 : Int) == 1, cls⟩) ht.devs ⟨by rw [hdl], hcapM, hcls⟩
  refine pw_cond rfl (fun h3 => ?_) (fun h3 => ?_)
  ·have hi0 : 0 < i := by simpa using h3
   (refine zGo ?_)
   refine zDr [[0,1,2,3,5,6,7],[4,8],[9,10,11,12],[13],[14],[15]] ?_
   (refine zDgo ?_)
   (refine po_make rfl rfl (fun st' K hK => op_litF hT rfl rfl rfl rfl rfl (by decide) rfl rfl rfl rfl hK) ?_; refine zDn ?_)
   (refine zDgo ?_)
   (refine po_step rfl rfl (zCl [0] e21 (c13n l hl j5 hj5 i hi0 (by omega)) (fun r s hq => ?_)); obtain ⟨j6, ⟨k6, hk6, rfl⟩, hj6, rfl⟩ := hq; refine ⟨rfl, rfl, zLok, ?_⟩; refine zDn ?_)
   (refine zDgo ?_)
   (refine po_step rfl rfl (zCl [0] e21 (c13n l hl j6 hj6 4 (by decide) (by decide)) (fun r s hq => ?_)); obtain ⟨j7, ⟨k7, hk7, rfl⟩, hj7, rfl⟩ := hq; refine ⟨rfl, rfl, zLok, ?_⟩; refine zDn ?_)
   (refine zDgo ?_)
   (refine po_val rfl rfl (v_index (p := .int .i64 (costs4.getD k7 0)) hT rfl rfl rfl rfl (by omega) (lit_at (.int .i64) costs4 k7 0 hk7) rfl) ?_; refine zDn ?_)
   (refine zDgo ?_)
   have hcost : costs4.getD k7 0 ∈ costs4 := getD_mem hk7
   (refine po_make rfl rfl (fun st' K hK => op_litF hT rfl rfl rfl rfl rfl (by decide) rfl rfl rfl rfl hK) ?_; refine zDn ?_)
   (refine zDgo ?_)
   (refine po_step rfl rfl (op_append (b := 24) hT rfl rfl rfl rfl rfl rfl (.inl (Nat.zero_lt_succ _)) rfl rfl (by simp; omega) (fun cap2 _ hcap => ⟨zLok, ?_⟩)); refine zDn ?_)
   (refine zDgo ?_)
   (refine pw_mv 4 8 hD rfl rfl rfl rfl rfl ?_; refine pw_norm rfl ?_)
   (refine zGo ?_)
   refine ⟨(i + 1, { t with devs := t.devs ++ [⟨names6.getD i [], cap, (k3 : Int) == 1, (k4 : Int) == 1, cls⟩], links := t.links ++ [⟨k6, i, costs4.getD k7 0⟩] }, (cap', cap2, c.2.2), j7), ⟨him, hj7, ⟨hd2, ?_, ht.edges⟩, by simp [hdl], by simp; omega, hee, hpe⟩, by show m - (i + 1) < m - i; omega, zLe, ?_⟩
   ·intro x hx
    rcases List.mem_append.1 hx with hx | hx
    ·exact ht.links x hx
    ·rw [List.mem_singleton] at hx; subst hx
     exact ⟨by simp, by show (k6 : Int) < i; omega, by show (i : Int) < m; omega, hcost⟩
   ·simp only [gS, mTopo, aTopo, List.map_append, List.length_append]
    (exact zLes)
  ·(refine zGo ?_)
   refine ⟨(i + 1, { t with devs := t.devs ++ [⟨names6.getD i [], cap, (k3 : Int) == 1, (k4 : Int) == 1, cls⟩] }, (cap', c.2), j5), ⟨him, hj5, ⟨hd2, ht.links, ht.edges⟩, by simp [hdl], by show t.links.length ≤ i + 1; omega, hee, hpe⟩, by show m - (i + 1) < m - i; omega, zLe, ?_⟩
   simp only [gS, mTopo, aTopo, List.map_append, List.length_append]
   (exact zLes)
 ·simp only [decide_eq_false_iff_not] at h
  have hie : i = m := by omega
  subst hie
  clear h hi
  (refine zGo ?_)
  (refine pl_op rfl (zCl [0] e21 (c13n l hl j hj 4 (by decide) (by decide)) (fun r s hq => ?_)); obtain ⟨j2, ⟨k, hk, rfl⟩, hj2, rfl⟩ := hq; refine ⟨rfl, rfl, ?_⟩; (refine zNp ?_))
  (refine zGo ?_)
  refine pw_for hD (fun a : Nat × Topo × Caps × Nat => [(8, .int .i64 a.1)]) (fun a => gS l a.2.1 a.2.2.1 a.2.2.2)
   (fun a => a.1 ≤ 3 ∧ a.2.2.2 ≤ l.length ∧ GTop i a.2.1 ∧ a.2.1.devs.length = i ∧ a.2.1.links.length + a.1 ≤ i + 3 ∧ a.2.1.edges = [] ∧ a.2.1.pools = []) (fun a => a.1) (k, t, c, j2) ⟨by show k ≤ 3; omega, hj2, ht, hdl, by show t.links.length + k ≤ i + 3; omega, hee, hpe⟩ 7 rfl (fun _ => rfl)
   zLes (fun _ => rfl) (fun _ => rfl) zLe ?_
  clear ht hdl hll hee hpe
  rintro ⟨k, t, c, j⟩ ⟨hk, hj, ht, hdl, hll, hee, hpe⟩
  dsimp only at hk hj ht hdl hll hee hpe ⊢
  (refine zGo ?_)
  (refine pl_and 3 73 76 (decide ((i : Int) > 1)) rfl rfl rfl (fun hb => ?_) (fun hb => ?_) ?_; (focus ((refine zNp ?_); (refine zGo ?_); exact ⟨zLe, StLe.refl _⟩)); (focus ((refine zNp ?_); (refine zGo ?_); exact ⟨zLe, StLe.refl _⟩)); (refine zNp ?_); (refine zGo ?_))
  refine pw_cond rfl (fun h => ?_) (fun h => ?_)
  ·simp only [Bool.and_eq_true, decide_eq_true_eq] at h
   have hk0 : 0 < k := by omega
   have hi1 : 1 < i := by omega
   (refine zGo ?_)
   rw [show (i : Int) - 1 = ((i - 1 : Nat) : Int) by omega]
   (refine pl_op rfl (zCl [0] e21 (c13n l hl j hj (i - 1) (by omega) (by omega)) (fun r s hq => ?_)); obtain ⟨j3, ⟨k3, hk3, rfl⟩, hj3, rfl⟩ := hq; refine ⟨rfl, rfl, ?_⟩; (refine zNp ?_))
   (refine zGo ?_)
   rw [show (1 : Int) + (k3 : Int) = ((1 + k3 : Nat) : Int) by omega]
   generalize hbb : 1 + k3 = b
   have hb : 0 < b ∧ b < i := by omega
   refine zDr [[0,1,2,3,5,6,7],[4,8],[9,10,11,12],[13],[14],[15]] ?_
   (refine zDgo ?_)
   (refine po_make rfl rfl (fun st' K hK => op_litF hT rfl rfl rfl rfl rfl (by decide) rfl rfl rfl rfl hK) ?_; refine zDn ?_)
   (refine zDgo ?_)
   (refine po_step rfl rfl (zCl [0] e21 (c13n l hl j3 hj3 b hb.1 (by omega)) (fun r s hq => ?_)); obtain ⟨j4, ⟨k4, hk4, rfl⟩, hj4, rfl⟩ := hq; refine ⟨rfl, rfl, zLok, ?_⟩; refine zDn ?_)
   (refine zDgo ?_)
   (refine po_step rfl rfl (zCl [0] e21 (c13n l hl j4 hj4 4 (by decide) (by decide)) (fun r s hq => ?_)); obtain ⟨j5, ⟨k5, hk5, rfl⟩, hj5, rfl⟩ := hq; refine ⟨rfl, rfl, zLok, ?_⟩; refine zDn ?_)
   (refine zDgo ?_)
   (refine po_val rfl rfl (v_index (p := .int .i64 (costs4.getD k5 0)) hT rfl rfl rfl rfl (by omega) (lit_at (.int .i64) costs4 k5 0 hk5) rfl) ?_; refine zDn ?_)
   (refine zDgo ?_)
   have hcost : costs4.getD k5 0 ∈ costs4 := getD_mem hk5
   (refine po_make rfl rfl (fun st' K hK => op_litF hT rfl rfl rfl rfl rfl (by decide) rfl rfl rfl rfl hK) ?_; refine zDn ?_)
   (refine zDgo ?_)
   (refine po_step rfl rfl (op_append (b := 24) hT rfl rfl rfl rfl rfl rfl (.inl (Nat.zero_lt_succ _)) rfl rfl (by simp; omega) (fun cap2 _ hcap => ⟨zLok, ?_⟩)); refine zDn ?_)
   (refine zDgo ?_)
   (refine pw_mv 4 7 hD rfl rfl rfl rfl rfl ?_; refine pw_norm rfl ?_)
   (refine zGo ?_)
   rw [show (k : Int) - 1 = ((k - 1 : Nat) : Int) by omega]
   refine ⟨(k - 1, { t with links := t.links ++ [⟨k4, b, costs4.getD k5 0⟩] }, (c.1, cap2, c.2.2), j5), ⟨by show k - 1 ≤ 3; omega, hj5, ⟨ht.devs, ?_, ht.edges⟩, hdl, by simp; omega, hee, hpe⟩, by show k - 1 < k; omega, zLe, ?_⟩
   ·intro x hx
    rcases List.mem_append.1 hx with hx | hx
    ·exact ht.links x hx
    ·rw [List.mem_singleton] at hx; subst hx
     exact ⟨by simp, by show (k4 : Int) < b; omega, by show (b : Int) < i; omega, hcost⟩
   ·simp only [gS, mTopo, aTopo, List.map_append, List.length_append]
    (exact zLes)
  clear h hk
  have hll2 : t.links.length ≤ i + 3 := by omega
  clear hll
  (refine zGo ?_)
  (refine pl_op rfl (zCl [0] e21 (c13n l hl j hj 6 (by decide) (by decide)) (fun r s hq => ?_)); obtain ⟨j2, ⟨k2, hk2, rfl⟩, hj2, rfl⟩ := hq; refine ⟨rfl, rfl, ?_⟩; (refine zNp ?_))
  (refine pl_op rfl (op_of (v_index (p := .int .i64 (count6.getD k2 0)) hT rfl rfl rfl rfl (by omega) (lit_at (.int .i64) count6 k2 0 hk2) rfl) ?_); (refine zNp ?_))
  obtain ⟨e, he5, hee2⟩ : ∃ e : Nat, e ≤ 5 ∧ count6.getD k2 0 = e := by
   have : ∀ x ∈ count6, 0 ≤ x ∧ x ≤ 5 := by decide
   have := this _ (getD_mem (d := 0) hk2)
   exact ⟨(count6.getD k2 0).toNat, by omega, by omega⟩
  rw [hee2]
  clear hee2 hk2
  (refine zGo ?_)
  refine pw_for hD (fun a : Nat × Topo × Caps × Nat => [(11, .int .i64 a.1)]) (fun a => gS l a.2.1 a.2.2.1 a.2.2.2)
   (fun a => a.1 ≤ e ∧ a.2.2.2 ≤ l.length ∧ GTop i a.2.1 ∧ a.2.1.devs.length = i ∧ a.2.1.links.length ≤ i + 3 ∧ a.2.1.edges.length = a.1 ∧ a.2.1.pools = []) (fun a => e - a.1) (0, t, c, j2) ⟨Nat.zero_le _, hj2, ht, hdl, hll2, by rw [hee]; rfl, hpe⟩ 7 rfl (fun _ => rfl)
   zLes (fun _ => rfl) (fun _ => rfl) zLe ?_
  clear ht hdl hll2 hee hpe
  rintro ⟨k, t, c, j⟩ ⟨hk, hj, ht, hdl, hll, hee, hpe⟩
  dsimp only at hk hj ht hdl hll hee hpe ⊢
  (refine zGo ?_)
  refine pw_cond rfl (fun h => ?_) (fun h => ?_)
  ·simp only [decide_eq_true_eq] at h
   have hke : k < e := by omega
   (refine zGo ?_)
   refine zDr [[0,1,2,3,4,5,6,7,9,10,14],[8,11],[12,13],[15],[16,17],[18],[19],[20]] ?_
   (refine zDgo ?_)
   (refine po_make rfl rfl (fun st' K hK => op_litF hT rfl rfl rfl rfl rfl (by decide) rfl rfl rfl rfl hK) ?_; refine zDn ?_)
   (refine zDgo ?_)
   (refine po_val rfl rfl (v_index (p := .str (names5.getD k [])) hT rfl rfl rfl rfl (by omega) (lit_at .str names5 k [] (by show k < 5; omega)) rfl) ?_; refine zDn ?_)
   (refine zDgo ?_)
   (refine po_make rfl rfl (fun st' K hK => op_litF hT rfl rfl rfl rfl rfl (by decide) rfl rfl rfl rfl hK) ?_; refine zDn ?_)
   (refine zDgo ?_)
   (refine po_step rfl rfl (zCl [0] e21 (c13n l hl j hj i (by omega) (by omega)) (fun r s hq => ?_)); obtain ⟨j3, ⟨k3, hk3, rfl⟩, hj3, rfl⟩ := hq; refine ⟨rfl, rfl, zLok, ?_⟩; refine zDn ?_)
   (refine zDgo ?_)
   (refine po_step rfl rfl (zCl [0] e21 (c13n l hl j3 hj3 3 (by decide) (by decide)) (fun r s hq => ?_)); obtain ⟨j4, ⟨k4, hk4, rfl⟩, hj4, rfl⟩ := hq; refine ⟨rfl, rfl, zLok, ?_⟩; refine zDn ?_)
   (refine zDgo ?_)
   (refine po_val rfl rfl (v_index (p := .str (zones3.getD k4 [])) hT rfl rfl rfl rfl (by omega) (lit_at .str zones3 k4 [] hk4) rfl) ?_; refine zDn ?_)
   (refine zDgo ?_)
   (refine po_step rfl rfl (op_fun (c37s k) rfl rfl e22 zLe rfl (fun r hr => ?_)); subst hr; refine ⟨rfl, zLok, ?_⟩; refine zDn ?_)
   (refine zDgo ?_)
   (refine po_make rfl rfl (fun st' K hK => op_litF hT rfl rfl rfl rfl rfl (by decide) rfl rfl rfl rfl hK) ?_; refine zDn ?_)
   (refine zDgo ?_)
   (refine po_step rfl rfl (op_append (b := 64) hT rfl rfl rfl rfl rfl rfl (.inl (Nat.zero_lt_succ _)) rfl rfl (by simp; omega) (fun cap2 _ hcap => ⟨zLok, ?_⟩)); refine zDn ?_)
   (refine zDgo ?_)
   (refine pw_mv 5 7 hD rfl rfl rfl rfl rfl ?_; refine pw_norm rfl ?_)
   (refine zGo ?_)
   have hz : zones3.getD k4 [] ∈ zones3 := getD_mem hk4
   have he2 := snoc_get (p := EdgeG i) (x := ⟨names5.getD k [], k3, zones3.getD k4 [], subnetN k, false⟩) ht.edges ⟨by rw [hee], by simp, by show (k3 : Int) < i; omega, hz, by rw [hee]; exact subnetN_small k (by omega), rfl⟩
   refine ⟨(k + 1, { t with edges := t.edges ++ [⟨names5.getD k [], k3, zones3.getD k4 [], subnetN k, false⟩] }, (c.1, c.2.1, cap2, c.2.2.2), j4), ⟨hke, hj4, ⟨ht.devs, ht.links, he2⟩, hdl, hll, by simp [hee], hpe⟩, by show e - (k + 1) < e - k; omega, zLe, ?_⟩
   simp only [gS, mTopo, aTopo, List.map_append, List.length_append]
   (exact zLes)
  simp only [decide_eq_false_iff_not] at h
  have hel : t.edges.length ≤ 5 := by omega
  clear h hk hee
  obtain ⟨devs, links, edges, pools, tol⟩ := t
  dsimp only at hdl hll hpe hel ⊢
  subst hpe
  (refine zGo ?_)
  (refine pl_op rfl (zCl [0] e21 (c13n l hl j hj 2 (by decide) (by decide)) (fun r s hq => ?_)); obtain ⟨j2, ⟨k2, hk2, rfl⟩, hj2, rfl⟩ := hq; refine ⟨rfl, rfl, ?_⟩; (refine zNp ?_))
  (refine zGo ?_)
  refine pw_joinX hD (fun x : List TPfx × Nat => x.1 = [] ∨ x.1 = [pool1]) (fun _ => []) (fun x => gS l ⟨devs, links, edges, x.1, tol⟩ (c.1, c.2.1, c.2.2.1, x.2) j2) 7 rfl (fun _ => rfl) (fun _ => rfl) (fun _ => rfl) ?_ ?_
  ·refine pw_cond rfl (fun h => ?_) (fun h => ?_)
   ·(refine zGo ?_)
    (refine pl_append (b := 16) hT hD rfl rfl rfl rfl rfl rfl rfl rfl (.inl (Nat.zero_lt_succ _)) rfl rfl (by simp <;> omega) (fun cap2 _ hcap => ?_); (refine zNp ?_))
    (refine zGo ?_)
    exact ⟨([pool1], cap2), .inr rfl, zLe, zLes⟩
   ·(refine zGo ?_)
    exact ⟨([], c.2.2.2), .inl rfl, zLe, zLes⟩
  rintro ⟨pools, pc⟩ hp
  dsimp only at hp ⊢
  have hpl : pools.length ≤ 1 := by rcases hp with rfl | rfl <;> decide
  (refine zGo ?_)
  (refine pl_op rfl (zCl [0] e21 (c13n l hl j2 hj2 3 (by decide) (by decide)) (fun r s hq => ?_)); obtain ⟨j3, ⟨k3, hk3, rfl⟩, hj3, rfl⟩ := hq; refine ⟨rfl, rfl, ?_⟩; (refine zNp ?_))
  (refine zGo ?_)
  refine pw_joinX hD (fun x : List TPfx × Nat => x.1 = [] ∨ x.1 = [pool1] ∨ x.1 = [pool2] ∨ x.1 = [pool1, pool2]) (fun _ => []) (fun x => gS l ⟨devs, links, edges, x.1, tol⟩ (c.1, c.2.1, c.2.2.1, x.2) j3) 7 rfl (fun _ => rfl) (fun _ => rfl) (fun _ => rfl) ?_ ?_
  ·refine pw_cond rfl (fun h => ?_) (fun h => ?_)
   ·(refine zGo ?_)
    (refine pl_append (b := 16) hT hD rfl rfl rfl rfl rfl rfl rfl rfl (.inl (Nat.zero_lt_succ _)) rfl rfl (by simp; omega) (fun cap2 _ hcap => ?_); (refine zNp ?_))
    (refine zGo ?_)
    refine ⟨(pools ++ [pool2], cap2), by rcases hp with rfl | rfl <;> simp, zLe, ?_⟩
    simp only [gS, mTopo, aTopo, List.map_append, List.length_append]
    (exact zLes)
   ·(refine zGo ?_)
    exact ⟨(pools, pc), by rcases hp with rfl | rfl <;> simp, zLe, zLes⟩
  clear hp
  rintro ⟨pools, pc⟩ hp
  dsimp only at hp ⊢
  (refine zGo ?_)
  (refine pl_op rfl (zCl [0] e21 (c13n l hl j3 hj3 5 (by decide) (by decide)) (fun r s hq => ?_)); obtain ⟨j4, ⟨k4, hk4, rfl⟩, hj4, rfl⟩ := hq; refine ⟨rfl, rfl, ?_⟩; (refine zNp ?_))
  (refine pl_op rfl (op_of (v_index (p := .int .i64 (tol5.getD k4 0)) hT rfl rfl rfl rfl (by omega) (lit_at (.int .i64) tol5 k4 0 hk4) rfl) ?_); (refine zNp ?_))
  (refine zGo ?_)
  have htol : tol5.getD k4 0 ∈ tol5 := getD_mem hk4
  exact ⟨_, _, _, rfl, ⟨j4, ⟨devs, links, edges, pools, tol5.getD k4 0⟩, (c.1, c.2.1, c.2.2.1, pc), ⟨i, hm.2.2, ⟨⟨ht.devs, ht.links, ht.edges⟩, hm.1, hm.2.1, hdl, hll, hel, hp, htol⟩⟩, hj4, rfl, rfl⟩, .inr (.inl rfl), ⟨.inr (.inl rfl), .inl rfl, .inl rfl, .inr (.inl rfl), .inr (.inl rfl), .inr (.inl rfl), .inr (.inl rfl), trivial⟩, rfl, rfl⟩

end
end Go.Proofs.YtokclomhkggikaaGreatDoor