/-
 Generators: tables and moves.
 Generators: the law's header.
-/
import Derived.Test.YtokclomhkggikaaGreatDoorKUG1
import Derived.Test.YtokclomhkggikaaGreatDoorJPwApX
set_option maxHeartbeats 20000000
set_option maxRecDepth 100000
namespace Go.Proofs.YtokclomhkggikaaGreatDoor
open Go Go.Pw
section
variable {Gl : Glob}
attribute [local irreducible] PW PWL OpP PCalls PWO bokB hinB bhas PWT bothT
instance iBetween (a : List TDev) (b : List TLink) (c : List TEdge) (d : List TPfx) (n : Int) : GenC Gl 58 [.agg [.sl (a.map eDev), .sl (b.map eLink), .sl (c.map eEdge), .sl (d.map ePfx), .int .i64 n]] (EdIn c) TBox BoxIn eBox := ⟨e58, fun h l hl i hi => g_between l hl i hi ⟨a, b, c, d, n⟩ h⟩
def TabIn (n : Int) (x : List TRule) : Prop := (x.length : Int) ≤ n ∧ ∀ r ∈ x, BoxIn r.m
theorem TabIn.snoc {n : Int} {x : List TRule} {r : TRule} (h : ∀ r ∈ x, BoxIn r.m) (hr : BoxIn r.m) (hn : (x.length : Int) + 1 ≤ n) : TabIn n (x ++ [r]) := by
 refine ⟨by simp; omega, fun q hq => ?_⟩
 rcases List.mem_append.1 hq with h' | h'
 ·exact h q h'
 ·rw [List.mem_singleton.1 h']; exact hr
theorem g_rules (l : List Int) (hl : Tp l) (i : Nat) (hi : i ≤ l.length) (t : Topo) (ht : EdIn t.edges) (n : Int) (hn : 0 ≤ n ∧ n < 1000) : Gen Gl 56 [eTopo t, .int .i64 n] l i fun r => ∃ x : List TRule, TabIn n x ∧ r = .sl (x.map eRule) := by
 refine PCalls.of hT Tryz.func56 rfl 1 (Nat.le_refl _) fun B hD => ?_
 refine pw_norm rfl ?_
 (repeat' (first | refine zS ?_ | (refine zg1 ?_; intro x j hx hj; refine zNp ?_) | (refine zg2 ?_; intro v hv; refine zNp ?_) | refine zg3 ?_ | refine zD ?_ | (refine zg4 ?_; intro x j hx hj; refine ⟨zLok, ?_⟩; refine zDn ?_) | (refine zg5 ?_; intro v hv; refine zDn ?_) | refine zg6 ?_ | refine po_both ?_ ?_ | refine pwt_both ?_ ?_ | refine pwt_fork ?_ | refine pwt_lin ?_ | (refine po_test rfl rfl rfl rfl zB ?_ ?_ <;> intro hb <;> first | exact zX | refine zDn ?_) | (refine zT ?_ ?_ <;> intro h <;> first | exact zX | refine zNq ?_)))
 refine pw_ghost 11 ?_
 refine zNq ?_
 refine pw_for hD (fun a : Int × Nat × List TRule × Nat => [(7, .msl 11 2 0 (a.2.2.1.map eRule).length a.2.2.2), (8, .int .i64 a.1)]) (fun a => [tape l a.2.1, .box (eTopo t).cells, .arr 11 (a.2.2.1.map eRule) a.2.2.2]) (fun a => (0 ≤ a.1 ∧ (a.2.2.1.length : Int) + a.1 ≤ n) ∧ a.2.1 ≤ l.length ∧ ∀ r ∈ a.2.2.1, BoxIn r.m) (fun a => a.1.toNat) (x, j, [], 0) ⟨⟨by dsimp only; omega, by dsimp only [List.length_nil]; omega⟩, hj, fun r hr => by cases hr⟩ 3 rfl (fun _ => rfl) zLes (fun _ => rfl) (fun _ => rfl) zLe ?_
 rintro ⟨m, j2, L, cap⟩ ⟨⟨hm, hL⟩, hj2, hb⟩
 dsimp only at hm hL hj2 hb ⊢
 refine zNq ?_
 (repeat' (first | refine zS ?_ | (refine zg1 ?_; intro x j hx hj; refine zNp ?_) | (refine zg2 ?_; intro v hv; refine zNp ?_) | refine zg3 ?_ | refine zD ?_ | (refine zg4 ?_; intro x j hx hj; refine ⟨zLok, ?_⟩; refine zDn ?_) | (refine zg5 ?_; intro v hv; refine zDn ?_) | refine zg6 ?_ | refine po_both ?_ ?_ | refine pwt_both ?_ ?_ | refine pwt_fork ?_ | refine pwt_lin ?_ | (refine po_test rfl rfl rfl rfl zB ?_ ?_ <;> intro hb <;> first | exact zX | refine zDn ?_) | (refine zT ?_ ?_ <;> intro h <;> first | exact zX | refine zNq ?_)))
 ·rename TBox => b0
  rename BoxIn b0 => hb0
  (refine pl_append (b := 44) hT hD rfl rfl rfl rfl rfl rfl rfl rfl (.inl (Nat.zero_lt_succ _)) rfl rfl (by simp; omega) (fun cap' _ hcap => ?_); (refine zNp ?_))
  (repeat' (first | refine zS ?_ | (refine zg1 ?_; intro x j hx hj; refine zNp ?_) | (refine zg2 ?_; intro v hv; refine zNp ?_) | refine zg3 ?_ | refine zD ?_ | (refine zg4 ?_; intro x j hx hj; refine ⟨zLok, ?_⟩; refine zDn ?_) | (refine zg5 ?_; intro v hv; refine zDn ?_) | refine zg6 ?_ | refine po_both ?_ ?_ | refine pwt_both ?_ ?_ | refine pwt_fork ?_ | refine pwt_lin ?_ | (refine po_test rfl rfl rfl rfl zB ?_ ?_ <;> intro hb <;> first | exact zX | refine zDn ?_) | (refine zT ?_ ?_ <;> intro h <;> first | exact zX | refine zNq ?_)))
  refine ⟨(m - 1, j, L ++ [⟨b0, decide (x > 0)⟩], cap'), ⟨⟨by dsimp only; omega, by dsimp only; simp only [List.length_append, List.length_cons, List.length_nil]; omega⟩, hj, fun r hr => ?_⟩, by dsimp only; omega, ?_, ?_⟩
  ·rcases List.mem_append.1 hr with h' | h'
   ·exact hb r h'
   ·rw [List.mem_singleton.1 h']; exact hb0
  all_goals simp only [List.map_append, List.length_append, List.map_cons, List.map_nil]
  ·(exact zLe)
  ·(exact zLes)
 ·exact ⟨_, .sl (L.map eRule), _, rfl, ⟨j2, ⟨L, ⟨by omega, hb⟩, rfl⟩, hj2, rfl⟩, .inr (.inr (.inr (.inl ⟨_, _, _, _, _, _, rfl, rfl, rfl, rfl, rfl⟩))), ⟨.inr (.inl rfl), trivial⟩, rfl, rfl⟩
instance iRules (a : List TDev) (b : List TLink) (c : List TEdge) (d : List TPfx) (n k : Int) : GenC Gl 56 [.agg [.sl (a.map eDev), .sl (b.map eLink), .sl (c.map eEdge), .sl (d.map ePfx), .int .i64 n], .int .i64 k] (EdIn c ∧ 0 ≤ k ∧ k < 1000) (List TRule) (TabIn k) (fun x => .sl (x.map eRule)) := ⟨e56, fun h l hl i hi => g_rules l hl i hi ⟨a, b, c, d, n⟩ h.1 k h.2⟩
def MoveIn (m : TMove) : Prop := BoxIn m.src ∧ BoxIn m.dst
def gMove (v a p : Int) : TMove := ⟨{ fullB with r1 := ⟨3405803781, 3405803781⟩, r2 := ⟨v, v⟩, r4 := ⟨80, 81⟩ }, { fullB with r1 := ⟨a, a⟩, r2 := ⟨v, v⟩, r4 := ⟨p, p + 1⟩ }⟩
theorem RIn.mk' {a b : Int} (ha : 0 ≤ a ∧ a < 4294967296) (hb : 0 ≤ b ∧ b < 4294967296) : RIn ⟨a, b⟩ := ⟨ha, hb⟩
theorem gMove_in {v a p : Int} (hv : 0 ≤ v ∧ v < 4294967296) (ha : 0 ≤ a ∧ a < 4294967296) (hp : 0 ≤ p ∧ p < 4294967295) : MoveIn (gMove v a p) :=
 ⟨⟨box_full_in.1, RIn.mk' ⟨by decide, by decide⟩ ⟨by decide, by decide⟩, ⟨hv, hv⟩, box_full_in.2.2.2.1, RIn.mk' ⟨by decide, by decide⟩ ⟨by decide, by decide⟩⟩, ⟨box_full_in.1, ⟨ha, ha⟩, ⟨hv, hv⟩, box_full_in.2.2.2.1, RIn.mk' ⟨hp.1, by omega⟩ ⟨by omega, by omega⟩⟩⟩
theorem g_published (l : List Int) (hl : Tp l) (i : Nat) (hi : i ≤ l.length) (t : Topo) (ht : EdIn t.edges) : Gen Gl 59 [eTopo t] l i fun r => ∃ x : TMove, MoveIn x ∧ r = eMove x := by
 have hlen := ht.1
 refine PCalls.of hT Tryz.func59 rfl 1 (Nat.le_refl _) fun B hD => ?_
 refine pw_norm rfl ?_
 (repeat' (first | (refine zDr [[0,1,2,3,4,5],[6],[7,8,9,10,11]] ?_; refine zDn ?_) | refine zS ?_ | (refine zg1 ?_; intro x j hx hj; refine zNp ?_) | (refine zg2 ?_; intro v hv; refine zNp ?_) | refine zg3 ?_ | refine zD ?_ | (refine zg4 ?_; intro x j hx hj; refine ⟨zLok, ?_⟩; refine zDn ?_) | (refine zg5 ?_; intro v hv; refine zDn ?_) | refine zg6 ?_ | refine po_both ?_ ?_ | refine pwt_both ?_ ?_ | refine pwt_fork ?_ | refine pwt_lin ?_ | (refine po_test rfl rfl rfl rfl zB ?_ ?_ <;> intro hb <;> first | exact zX | refine zDn ?_) | (refine zT ?_ ?_ <;> intro h <;> first | exact zX | refine zNq ?_)))
 ·have hx' : x.toNat < t.edges.length := by omega
  have hv' : 0 ≤ v ∧ v < 4294967296 := by simp only [List.mem_cons, List.mem_nil_iff, or_false] at hv; omega
  (refine po_val rfl rfl (v_nth (n := x.toNat) hT rfl rfl rfl rfl rfl (by omega) (by omega) (fun _ => rfl)) ?_; refine zDn ?_)
  have ha := ht.at hx'
  (repeat' (first | (refine zDr [[0,1,2,3,4,5],[6],[7,8,9,10,11]] ?_; refine zDn ?_) | refine zS ?_ | (refine zg1 ?_; intro x j hx hj; refine zNp ?_) | (refine zg2 ?_; intro v hv; refine zNp ?_) | refine zg3 ?_ | refine zD ?_ | (refine zg4 ?_; intro x j hx hj; refine ⟨zLok, ?_⟩; refine zDn ?_) | (refine zg5 ?_; intro v hv; refine zDn ?_) | refine zg6 ?_ | refine po_both ?_ ?_ | refine pwt_both ?_ ?_ | refine pwt_fork ?_ | refine pwt_lin ?_ | (refine po_test rfl rfl rfl rfl zB ?_ ?_ <;> intro hb <;> first | exact zX | refine zDn ?_) | (refine zT ?_ ?_ <;> intro h <;> first | exact zX | refine zNq ?_)))
  exact ret_gen j (gMove v _ (x * 80)) _ rfl (gMove_in hv' ha ⟨by omega, by omega⟩) hj rfl rfl (fun _ => rfl)
 ·have hv' : 0 ≤ v ∧ v < 4294967296 := by simp only [List.mem_cons, List.mem_nil_iff, or_false] at hv; omega
  exact ret_gen j (gMove v 167772165 (x * 80)) _ rfl (gMove_in hv' ⟨by decide, by decide⟩ ⟨by omega, by omega⟩) hj rfl rfl (fun _ => rfl)
instance iPublished (a : List TDev) (b : List TLink) (c : List TEdge) (d : List TPfx) (n : Int) : GenC Gl 59 [.agg [.sl (a.map eDev), .sl (b.map eLink), .sl (c.map eEdge), .sl (d.map ePfx), .int .i64 n]] (EdIn c) TMove MoveIn eMove := ⟨e59, fun h l hl i hi => g_published l hl i hi ⟨a, b, c, d, n⟩ h⟩
theorem HdrIn.proto' {h : THdr} (q : HdrIn h) {v : Int} (hv : v ∈ [6, 17]) : HdrIn ⟨h.src, h.dst, v, h.sp, h.dp⟩ :=
 ⟨q.src, q.dst, by simp only [List.mem_cons, List.mem_nil_iff, or_false] at hv; dsimp only; omega, q.sp, q.dp⟩
theorem HdrIn.ends {h : THdr} (q : HdrIn h) {a b : Int} (ha : 0 ≤ a ∧ a < 4294967296) (hb : 0 ≤ b ∧ b < 4294967296) : HdrIn ⟨a, b, h.proto, h.sp, h.dp⟩ := ⟨ha, hb, q.proto, q.sp, q.dp⟩
theorem g_lawHeader (l : List Int) (hl : Tp l) (i : Nat) (hi : i ≤ l.length) (t : Topo) (ht : EdIn t.edges) (pA pB : TPort) (hy : 0 ≤ pB.edge) : Gen Gl 9 [eTopo t, ePort pA, ePort pB] l i fun r => ∃ q : THdr, HdrIn q ∧ r = eHdr q := by
 have hlen := ht.1
 refine PCalls.of hT Tryz.func9 rfl 1 (Nat.le_refl _) fun B hD => ?_
 refine pw_norm rfl ?_
 (repeat' (first | (refine zDr [[0,1,2,3,4,5,6,7,8,9,10,11,12,13,14,15,16],[17],[18],[19]] ?_; refine zDn ?_) | refine zS ?_ | (refine zg1 ?_; intro x j hx hj; refine zNp ?_) | (refine zg2 ?_; intro v hv; refine zNp ?_) | refine zg3 ?_ | refine zD ?_ | (refine zg4 ?_; intro x j hx hj; refine ⟨zLok, ?_⟩; refine zDn ?_) | (refine zg5 ?_; intro v hv; refine zDn ?_) | refine zg6 ?_ | refine po_both ?_ ?_ | refine pwt_both ?_ ?_ | refine pwt_fork ?_ | refine pwt_lin ?_ | (refine po_test rfl rfl rfl rfl zB ?_ ?_ <;> intro hb <;> first | exact zX | refine zDn ?_) | refine zq5 ?_ | refine zq6 ?_ | (refine zT ?_ ?_ <;> intro h <;> first | exact zX | refine zNq ?_)))
 rename THdr => q
 rename HdrIn q => hq
 refine pl_split 31 rfl (fun h3 => ?_) (fun h3 => ?_)
 ·simp only [decide_eq_true_eq, Bool.and_eq_true, ge_iff_le] at h3
  (repeat' (first | (refine zDr [[0,1,2,3,4,5,6,7,8,9,10,11,12,13,14,15,16],[17],[18],[19]] ?_; refine zDn ?_) | refine zS ?_ | (refine zg1 ?_; intro x j hx hj; refine zNp ?_) | (refine zg2 ?_; intro v hv; refine zNp ?_) | refine zg3 ?_ | refine zD ?_ | (refine zg4 ?_; intro x j hx hj; refine ⟨zLok, ?_⟩; refine zDn ?_) | (refine zg5 ?_; intro v hv; refine zDn ?_) | refine zg6 ?_ | refine po_both ?_ ?_ | refine pwt_both ?_ ?_ | refine pwt_fork ?_ | refine pwt_lin ?_ | (refine po_test rfl rfl rfl rfl zB ?_ ?_ <;> intro hb <;> first | exact zX | refine zDn ?_) | refine zq5 ?_ | refine zq6 ?_ | (refine zT ?_ ?_ <;> intro h <;> first | exact zX | refine zNq ?_)))
  ·(refine po_val rfl rfl (v_nth (n := pA.edge.toNat) hT rfl rfl rfl rfl rfl (by omega) (by omega) (fun _ => rfl)) ?_; refine zDn ?_)
   have ha := ht.at (show pA.edge.toNat < t.edges.length by omega)
   (repeat' (first | (refine zDr [[0,1,2,3,4,5,6,7,8,9,10,11,12,13,14,15,16],[17],[18],[19]] ?_; refine zDn ?_) | refine zS ?_ | (refine zg1 ?_; intro x j hx hj; refine zNp ?_) | (refine zg2 ?_; intro v hv; refine zNp ?_) | refine zg3 ?_ | refine zD ?_ | (refine zg4 ?_; intro x j hx hj; refine ⟨zLok, ?_⟩; refine zDn ?_) | (refine zg5 ?_; intro v hv; refine zDn ?_) | refine zg6 ?_ | refine po_both ?_ ?_ | refine pwt_both ?_ ?_ | refine pwt_fork ?_ | refine pwt_lin ?_ | (refine po_test rfl rfl rfl rfl zB ?_ ?_ <;> intro hb <;> first | exact zX | refine zDn ?_) | refine zq5 ?_ | refine zq6 ?_ | (refine zT ?_ ?_ <;> intro h <;> first | exact zX | refine zNq ?_)))
   (refine po_val rfl rfl (v_nth (n := pB.edge.toNat) hT rfl rfl rfl rfl rfl (by omega) (by omega) (fun _ => rfl)) ?_; refine zDn ?_)
   have hb := ht.at (show pB.edge.toNat < t.edges.length by omega)
   (repeat' (first | (refine zDr [[0,1,2,3,4,5,6,7,8,9,10,11,12,13,14,15,16],[17],[18],[19]] ?_; refine zDn ?_) | refine zS ?_ | (refine zg1 ?_; intro x j hx hj; refine zNp ?_) | (refine zg2 ?_; intro v hv; refine zNp ?_) | refine zg3 ?_ | refine zD ?_ | (refine zg4 ?_; intro x j hx hj; refine ⟨zLok, ?_⟩; refine zDn ?_) | (refine zg5 ?_; intro v hv; refine zDn ?_) | refine zg6 ?_ | refine po_both ?_ ?_ | refine pwt_both ?_ ?_ | refine pwt_fork ?_ | refine pwt_lin ?_ | (refine po_test rfl rfl rfl rfl zB ?_ ?_ <;> intro hb <;> first | exact zX | refine zDn ?_) | refine zq5 ?_ | refine zq6 ?_ | (refine zT ?_ ?_ <;> intro h <;> first | exact zX | refine zNq ?_)))
   ·exact ret_gen (e := eHdr) j _ _ rfl ((hq.ends ha hb).proto' hv) hj rfl rfl (fun _ => rfl)
   ·exact ret_gen (e := eHdr) j _ _ rfl (hq.ends ha hb) hj rfl rfl (fun _ => rfl)
  ·exact ret_gen (e := eHdr) j _ _ rfl (hq.proto' hv) hj rfl rfl (fun _ => rfl)
  ·exact ret_gen j q _ rfl hq hj rfl rfl (fun _ => rfl)
 ·(repeat' (first | (refine zDr [[0,1,2,3,4,5,6,7,8,9,10,11,12,13,14,15,16],[17],[18],[19]] ?_; refine zDn ?_) | refine zS ?_ | (refine zg1 ?_; intro x j hx hj; refine zNp ?_) | (refine zg2 ?_; intro v hv; refine zNp ?_) | refine zg3 ?_ | refine zD ?_ | (refine zg4 ?_; intro x j hx hj; refine ⟨zLok, ?_⟩; refine zDn ?_) | (refine zg5 ?_; intro v hv; refine zDn ?_) | refine zg6 ?_ | refine po_both ?_ ?_ | refine pwt_both ?_ ?_ | refine pwt_fork ?_ | refine pwt_lin ?_ | (refine po_test rfl rfl rfl rfl zB ?_ ?_ <;> intro hb <;> first | exact zX | refine zDn ?_) | refine zq5 ?_ | refine zq6 ?_ | (refine zT ?_ ?_ <;> intro h <;> first | exact zX | refine zNq ?_)))
  ·exact ret_gen (e := eHdr) j _ _ rfl (hq.proto' hv) hj rfl rfl (fun _ => rfl)
  ·exact ret_gen j q _ rfl hq hj rfl rfl (fun _ => rfl)

end
end Go.Proofs.YtokclomhkggikaaGreatDoor