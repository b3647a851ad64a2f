/-
 Generators: numbers, addresses, boxes, headers.
 Generators: rules, moves, ports.
-/
import Derived.Test.YtokclomhkggikaaGreatDoorKU5
import Derived.Test.YtokclomhkggikaaGreatDoorKU1
import Derived.Test.YtokclomhkggikaaGreatDoorKA2
import Derived.Test.YtokclomhkggikaaGreatDoorKB11
set_option maxHeartbeats 20000000
set_option maxRecDepth 100000
namespace Go.Proofs.YtokclomhkggikaaGreatDoor
open Go Go.Pw
section
variable {Gl : Glob}
attribute [local irreducible] PW PWL OpP PCalls PWO bokB hinB bhas PWT bothT
instance iNext (n : Int) : GenC Gl 21 [.int .i64 n] (n ≤ 9223372036854775807) Int (fun m => 0 ≤ m ∧ (m < n ∨ m = 0)) (.int .i64) :=
 ⟨e21, fun hn l hl i hi => (c13 l hl i hi n hn).mono fun _ _ ⟨m, i', h1, h2, h3, h4, h5⟩ => ⟨i', ⟨m, ⟨h2, h3⟩, h1⟩, h4, h5⟩⟩
instance iAddr : GenC Gl 60 [] True Int (fun a => 0 ≤ a ∧ a < 4294967296) (.int .u32) :=
 ⟨e60, fun _ l hl i hi => (c22 l hl i hi).mono fun _ _ ⟨i', ⟨a, h1, h2⟩, h4, h5⟩ => ⟨i', ⟨a, h1, h2⟩, h4, h5⟩⟩
instance iSubnet (n : Int) : ConF Tryz.prog Gl 22 [.int .i64 n] True (ePfx (subnetN n)) := ⟨e22, fun _ => c37s n⟩
instance iROf (a b : Int) : ConF Tryz.prog Gl 52 [.agg [.int .u32 a, .int .i64 b]] True (.tup [.agg [.int .u32 (rof ⟨a, b⟩).1, .int .u32 (rof ⟨a, b⟩).2], .bool (rvalid ⟨a, b⟩)]) := ⟨e52, fun _ => c54 ⟨a, b⟩⟩
instance iROfE (p : TPfx) : ConF Tryz.prog Gl 52 [ePfx p] True (.tup [.agg [.int .u32 (rof p).1, .int .u32 (rof p).2], .bool (rvalid p)]) := ⟨e52, fun _ => c54 p⟩
theorem box_full_in : BoxIn fullB := by unfold BoxIn RIn fullB; decide
theorem g_number (l : List Int) (hl : Tp l) (i : Nat) (hi : i ≤ l.length) (top : Int) (h1 : 1 ≤ top) (h2 : top < 4294967296) : Gen Gl 61 [.int .u32 top] l i fun r => ∃ v : Int, (0 ≤ v ∧ v ≤ top) ∧ r = .int .u32 v := by
 refine PCalls.of hT Tryz.func61 rfl 1 (Nat.le_refl _) fun B hD => ?_
 refine pw_norm rfl ?_
 (repeat' (first | refine zS ?_ | (refine zg1 ?_; intro x j hx hj; refine zNp ?_) | (refine zg2 ?_; intro v hv; refine zNp ?_) | refine zg3 ?_ | refine zD ?_ | (refine zg4 ?_; intro x j hx hj; refine ⟨zLok, ?_⟩; refine zDn ?_) | (refine zg5 ?_; intro v hv; refine zDn ?_) | refine zg6 ?_ | refine po_both ?_ ?_ | refine pwt_both ?_ ?_ | refine pwt_fork ?_ | refine pwt_lin ?_ | (refine po_test rfl rfl rfl rfl zB ?_ ?_ <;> intro hb <;> first | exact zX | refine zDn ?_) | (refine zT ?_ ?_ <;> intro h <;> first | exact zX | refine zNq ?_)))
 have hv' : 0 ≤ v := by simp only [List.mem_cons, List.mem_nil_iff, or_false] at hv; omega
 exact ret_gen j (min v top) _ rfl ⟨by omega, by omega⟩ hj rfl rfl (fun _ => rfl)
instance iNumber (top : Int) : GenC Gl 61 [.int .u32 top] (1 ≤ top ∧ top < 4294967296) Int (fun v => 0 ≤ v ∧ v ≤ top) (.int .u32) := ⟨e61, fun h l hl i hi => g_number l hl i hi top h.1 h.2⟩
theorem g_range (l : List Int) (hl : Tp l) (i : Nat) (hi : i ≤ l.length) (top : Int) (h1 : 1 ≤ top) (h2 : top < 4294967296) : Gen Gl 155 [.int .u32 top] l i fun r => ∃ x : TRng, RIn x ∧ r = eRng x := by
 refine PCalls.of hT Tryz.func155 rfl 1 (Nat.le_refl _) fun B hD => ?_
 refine pw_norm rfl ?_
 (repeat' (first | refine zS ?_ | (refine zg1 ?_; intro x j hx hj; refine zNp ?_) | (refine zg2 ?_; intro v hv; refine zNp ?_) | refine zg3 ?_ | refine zD ?_ | (refine zg4 ?_; intro x j hx hj; refine ⟨zLok, ?_⟩; refine zDn ?_) | (refine zg5 ?_; intro v hv; refine zDn ?_) | refine zg6 ?_ | refine po_both ?_ ?_ | refine pwt_both ?_ ?_ | refine pwt_fork ?_ | refine pwt_lin ?_ | (refine po_test rfl rfl rfl rfl zB ?_ ?_ <;> intro hb <;> first | exact zX | refine zDn ?_) | (refine zT ?_ ?_ <;> intro h <;> first | exact zX | refine zNq ?_)))
 rename_i a _ ha _
 exact ret_gen j (⟨min a x, max a x⟩ : TRng) _ rfl ⟨⟨by dsimp only; omega, by dsimp only; omega⟩, by dsimp only; omega, by dsimp only; omega⟩ hj rfl rfl (fun _ => rfl)
instance iRange (top : Int) : GenC Gl 155 [.int .u32 top] (1 ≤ top ∧ top < 4294967296) TRng RIn eRng := ⟨e155, fun h l hl i hi => g_range l hl i hi top h.1 h.2⟩
theorem g_addresses (l : List Int) (hl : Tp l) (i : Nat) (hi : i ≤ l.length) : Gen Gl 154 [] l i fun r => ∃ x : TRng, RIn x ∧ r = eRng x := by
 refine PCalls.of hT Tryz.func154 rfl 1 (Nat.le_refl _) fun B hD => ?_
 refine pw_norm rfl ?_
 (repeat' (first | refine zS ?_ | (refine zg1 ?_; intro x j hx hj; refine zNp ?_) | (refine zg2 ?_; intro v hv; refine zNp ?_) | refine zg3 ?_ | refine zD ?_ | (refine zg4 ?_; intro x j hx hj; refine ⟨zLok, ?_⟩; refine zDn ?_) | (refine zg5 ?_; intro v hv; refine zDn ?_) | refine zg6 ?_ | refine po_both ?_ ?_ | refine pwt_both ?_ ?_ | refine pwt_fork ?_ | refine pwt_lin ?_ | (refine po_test rfl rfl rfl rfl zB ?_ ?_ <;> intro hb <;> first | exact zX | refine zDn ?_) | (refine zT ?_ ?_ <;> intro h <;> first | exact zX | refine zNq ?_)))
 ·have hr := rof_range (show 0 ≤ (subnetN x).addr ∧ (subnetN x).addr < 4294967296 from (show ∀ p ∈ subnets, 0 ≤ p.addr ∧ p.addr < 4294967296 by decide) _ (subnetN_mem x))
  exact ret_gen j (⟨(rof (subnetN x)).1, (rof (subnetN x)).2⟩ : TRng) _ rfl hr hj rfl rfl (fun _ => rfl)
 ·rename_i y _ hy _
  exact ret_gen j (⟨min y x, max y x⟩ : TRng) _ rfl ⟨⟨by dsimp only; omega, by dsimp only; omega⟩, by dsimp only; omega, by dsimp only; omega⟩ hj rfl rfl (fun _ => rfl)
 ·exact ret_gen j (⟨x, x⟩ : TRng) _ rfl ⟨hx, hx⟩ hj rfl rfl (fun _ => rfl)
 ·exact ret_gen j (⟨0, 4294967295⟩ : TRng) _ rfl ⟨⟨by decide, by decide⟩, by decide, by decide⟩ hj rfl rfl (fun _ => rfl)
instance iAddresses : GenC Gl 154 [] True TRng RIn eRng := ⟨e154, fun _ l hl i hi => g_addresses l hl i hi⟩
theorem g_box (l : List Int) (hl : Tp l) (i : Nat) (hi : i ≤ l.length) : Gen Gl 108 [] l i fun r => ∃ b : TBox, BoxIn b ∧ r = eBox b := by
 refine PCalls.of hT Tryz.func108 rfl 1 (Nat.le_refl _) fun B hD => ?_
 refine pw_norm rfl ?_
 (repeat' (first | refine zS ?_ | (refine zg1 ?_; intro x j hx hj; refine zNp ?_) | (refine zg2 ?_; intro v hv; refine zNp ?_) | refine zg3 ?_ | refine zD ?_ | (refine zg4 ?_; intro x j hx hj; refine ⟨zLok, ?_⟩; refine zDn ?_) | (refine zg5 ?_; intro v hv; refine zDn ?_) | refine zg6 ?_ | refine po_both ?_ ?_ | refine pwt_both ?_ ?_ | refine pwt_fork ?_ | refine pwt_lin ?_ | (refine po_test rfl rfl rfl rfl zB ?_ ?_ <;> intro hb <;> first | exact zX | refine zDn ?_) | (refine zT ?_ ?_ <;> intro h <;> first | exact zX | refine zNq ?_)))
 refine pw_for hD (fun a : Int × Nat × TBox => [(4, .int .i64 a.1)]) (fun a => [tape l a.2.1, .box (eBox box0).cells, .box (eBox a.2.2).cells]) (fun a => (0 ≤ a.1 ∧ a.1 ≤ 3) ∧ a.2.1 ≤ l.length ∧ BoxIn a.2.2) (fun a => a.1.toNat) (1 + x, j, fullB) ⟨by dsimp only; omega, hj, box_full_in⟩ 3 rfl (fun _ => rfl) zLes (fun _ => rfl) (fun _ => rfl) zLe ?_
 rintro ⟨n, j2, b⟩ ⟨hn, hj2, hb⟩
 dsimp only at hn hj2 hb ⊢
 refine zNq ?_
 (repeat' (first | refine zS ?_ | (refine zg1 ?_; intro x j hx hj; refine zNp ?_) | (refine zg2 ?_; intro v hv; refine zNp ?_) | refine zg3 ?_ | refine zD ?_ | (refine zg4 ?_; intro x j hx hj; refine ⟨zLok, ?_⟩; refine zDn ?_) | (refine zg5 ?_; intro v hv; refine zDn ?_) | refine zg6 ?_ | refine po_both ?_ ?_ | refine pwt_both ?_ ?_ | refine pwt_fork ?_ | refine pwt_lin ?_ | (refine po_test rfl rfl rfl rfl zB ?_ ?_ <;> intro hb <;> first | exact zX | refine zDn ?_) | (refine zT ?_ ?_ <;> intro h <;> first | exact zX | refine zNq ?_)))
 ·exact ⟨(n - 1, j, { b with r0 := x }), ⟨by dsimp only; omega, hj, hx, hb.2.1, hb.2.2.1, hb.2.2.2.1, hb.2.2.2.2⟩, by dsimp only; omega, zLe, zLes⟩
 ·exact ⟨(n - 1, j, { b with r1 := x }), ⟨by dsimp only; omega, hj, hb.1, hx, hb.2.2.1, hb.2.2.2.1, hb.2.2.2.2⟩, by dsimp only; omega, zLe, zLes⟩
 ·have hv' : 0 ≤ v ∧ v < 4294967296 := by simp only [List.mem_cons, List.mem_nil_iff, or_false] at hv; omega
  exact ⟨(n - 1, j, { b with r2 := ⟨v, v⟩ }), ⟨by dsimp only; omega, hj, hb.1, hb.2.1, ⟨hv', hv'⟩, hb.2.2.2.1, hb.2.2.2.2⟩, by dsimp only; omega, zLe, zLes⟩
 ·exact ⟨(n - 1, j, { b with r3 := x }), ⟨by dsimp only; omega, hj, hb.1, hb.2.1, hb.2.2.1, hx, hb.2.2.2.2⟩, by dsimp only; omega, zLe, zLes⟩
 ·exact ⟨(n - 1, j, { b with r4 := x }), ⟨by dsimp only; omega, hj, hb.1, hb.2.1, hb.2.2.1, hb.2.2.2.1, hx⟩, by dsimp only; omega, zLe, zLes⟩
 ·exact ret_gen j2 b _ rfl hb hj2 rfl rfl (fun _ => rfl)
instance iBox : GenC Gl 108 [] True TBox BoxIn eBox := ⟨e108, fun _ l hl i hi => g_box l hl i hi⟩
theorem g_header (l : List Int) (hl : Tp l) (i : Nat) (hi : i ≤ l.length) : Gen Gl 25 [] l i fun r => ∃ h : THdr, HdrIn h ∧ r = eHdr h := by
 refine PCalls.of hT Tryz.func25 rfl 1 (Nat.le_refl _) fun B hD => ?_
 refine pw_norm rfl ?_
 (repeat' (first | (refine zDr [[0,2,4,5,9,12],[1,3,6],[7,8],[10],[11],[13],[14,15],[16]] ?_; refine zDn ?_) | refine zS ?_ | (refine zg1 ?_; intro x j hx hj; refine zNp ?_) | (refine zg2 ?_; intro v hv; refine zNp ?_) | refine zg3 ?_ | refine zD ?_ | (refine zg4 ?_; intro x j hx hj; refine ⟨zLok, ?_⟩; refine zDn ?_) | (refine zg5 ?_; intro v hv; refine zDn ?_) | refine zg6 ?_ | refine po_both ?_ ?_ | refine pwt_both ?_ ?_ | refine pwt_fork ?_ | refine pwt_lin ?_ | (refine po_test rfl rfl rfl rfl zB ?_ ?_ <;> intro hb <;> first | exact zX | refine zDn ?_) | (refine zT ?_ ?_ <;> intro h <;> first | exact zX | refine zNq ?_)))
 rename_i a _ ha _ b _ hb _ _ _ _ _ c _ hc _
 have hv' : 0 ≤ v ∧ v < 256 := by simp only [List.mem_cons, List.mem_nil_iff, or_false] at hv; omega
 exact ret_gen j (⟨a, b, v, c, x⟩ : THdr) _ rfl ⟨ha, hb, hv', ⟨hc.1, by dsimp only; omega⟩, ⟨hx.1, by dsimp only; omega⟩⟩ hj rfl rfl (fun _ => rfl)
instance iHeader : GenC Gl 25 [] True THdr HdrIn eHdr := ⟨e25, fun _ l hl i hi => g_header l hl i hi⟩
def EdIn (c : List TEdge) : Prop := c.length < 1000 ∧ ∀ e ∈ c, 0 ≤ e.pfx.addr ∧ e.pfx.addr < 4294967296
theorem EdIn.at {c : List TEdge} (h : EdIn c) {k : Nat} (hk : k < c.length) : 0 ≤ (c.getD k default).pfx.addr ∧ (c.getD k default).pfx.addr < 4294967296 := by
 refine h.2 _ ?_
 rw [List.getD, List.getElem?_eq_getElem hk]
 exact List.getElem_mem hk
theorem BoxIn.proto {b : TBox} (h : BoxIn b) {v : Int} (hv : 0 ≤ v ∧ v < 4294967296) : BoxIn { b with r2 := ⟨v, v⟩ } := ⟨h.1, h.2.1, ⟨hv, hv⟩, h.2.2.2.1, h.2.2.2.2⟩
theorem BoxIn.ends {b : TBox} (h : BoxIn b) {r s : TRng} (hr : RIn r) (hs : RIn s) : BoxIn { b with r0 := r, r1 := s } := ⟨hr, hs, h.2.2.1, h.2.2.2.1, h.2.2.2.2⟩
theorem g_between (l : List Int) (hl : Tp l) (i : Nat) (hi : i ≤ l.length) (t : Topo) (ht : EdIn t.edges) : Gen Gl 58 [eTopo t] l i fun r => ∃ b : TBox, BoxIn b ∧ r = eBox b := by
 have hlen := ht.1
 refine PCalls.of hT Tryz.func58 rfl 1 (Nat.le_refl _) fun B hD => ?_
 refine pw_norm rfl ?_
 (repeat' (first | (refine zDr [[0,1,2,3,4,5],[6],[7,8,9],[10],[11,12,13,14],[15]] ?_; refine zDn ?_) | refine zS ?_ | (refine zg1 ?_; intro x j hx hj; refine zNp ?_) | (refine zg2 ?_; intro v hv; refine zNp ?_) | refine zg3 ?_ | refine zD ?_ | (refine zg4 ?_; intro x j hx hj; refine ⟨zLok, ?_⟩; refine zDn ?_) | (refine zg5 ?_; intro v hv; refine zDn ?_) | refine zg6 ?_ | refine po_both ?_ ?_ | refine pwt_both ?_ ?_ | refine pwt_fork ?_ | refine pwt_lin ?_ | (refine po_test rfl rfl rfl rfl zB ?_ ?_ <;> intro hb <;> first | exact zX | refine zDn ?_) | refine zq5 ?_ | refine zq6 ?_ | (refine zT ?_ ?_ <;> intro h <;> first | exact zX | refine zNq ?_)))
 rename TBox => b0
 rename BoxIn b0 => hb0
 have hv' : ∀ v : Int, v ∈ [6, 17, 1, 50] → 0 ≤ v ∧ v < 4294967296 := by
  intro v hv
  simp only [List.mem_cons, List.mem_nil_iff, or_false] at hv
  omega
 refine pl_split 13 rfl (fun h => ?_) (fun h => ?_)
 ·simp only [decide_eq_true_eq] at h
  (repeat' (first | (refine zDr [[0,1,2,3,4,5],[6],[7,8,9],[10],[11,12,13,14],[15]] ?_; refine zDn ?_) | refine zS ?_ | (refine zg1 ?_; intro x j hx hj; refine zNp ?_) | (refine zg2 ?_; intro v hv; refine zNp ?_) | refine zg3 ?_ | refine zD ?_ | (refine zg4 ?_; intro x j hx hj; refine ⟨zLok, ?_⟩; refine zDn ?_) | (refine zg5 ?_; intro v hv; refine zDn ?_) | refine zg6 ?_ | refine po_both ?_ ?_ | refine pwt_both ?_ ?_ | refine pwt_fork ?_ | refine pwt_lin ?_ | (refine po_test rfl rfl rfl rfl zB ?_ ?_ <;> intro hb <;> first | exact zX | refine zDn ?_) | refine zq5 ?_ | refine zq6 ?_ | (refine zT ?_ ?_ <;> intro h <;> first | exact zX | refine zNq ?_)))
  ·have hx' : x.toNat < t.edges.length := by omega
   (refine po_val rfl rfl (v_nth (n := x.toNat) hT rfl rfl rfl rfl rfl (by omega) (by omega) (fun _ => rfl)) ?_; refine zDn ?_)
   have hr0 : RIn ⟨(rof (t.edges.getD x.toNat default).pfx).1, (rof (t.edges.getD x.toNat default).pfx).2⟩ := rof_range (ht.at hx')
   (repeat' (first | (refine zDr [[0,1,2,3,4,5],[6],[7,8,9],[10],[11,12,13,14],[15]] ?_; refine zDn ?_) | refine zS ?_ | (refine zg1 ?_; intro x j hx hj; refine zNp ?_) | (refine zg2 ?_; intro v hv; refine zNp ?_) | refine zg3 ?_ | refine zD ?_ | (refine zg4 ?_; intro x j hx hj; refine ⟨zLok, ?_⟩; refine zDn ?_) | (refine zg5 ?_; intro v hv; refine zDn ?_) | refine zg6 ?_ | refine po_both ?_ ?_ | refine pwt_both ?_ ?_ | refine pwt_fork ?_ | refine pwt_lin ?_ | (refine po_test rfl rfl rfl rfl zB ?_ ?_ <;> intro hb <;> first | exact zX | refine zDn ?_) | refine zq5 ?_ | refine zq6 ?_ | (refine zT ?_ ?_ <;> intro h <;> first | exact zX | refine zNq ?_)))
   have hx2 : x.toNat < t.edges.length := by omega
   (refine po_val rfl rfl (v_nth (n := x.toNat) hT rfl rfl rfl rfl rfl (by omega) (by omega) (fun _ => rfl)) ?_; refine zDn ?_)
   have hr1 : RIn ⟨(rof (t.edges.getD x.toNat default).pfx).1, (rof (t.edges.getD x.toNat default).pfx).2⟩ := rof_range (ht.at hx2)
   (repeat' (first | (refine zDr [[0,1,2,3,4,5],[6],[7,8,9],[10],[11,12,13,14],[15]] ?_; refine zDn ?_) | refine zS ?_ | (refine zg1 ?_; intro x j hx hj; refine zNp ?_) | (refine zg2 ?_; intro v hv; refine zNp ?_) | refine zg3 ?_ | refine zD ?_ | (refine zg4 ?_; intro x j hx hj; refine ⟨zLok, ?_⟩; refine zDn ?_) | (refine zg5 ?_; intro v hv; refine zDn ?_) | refine zg6 ?_ | refine po_both ?_ ?_ | refine pwt_both ?_ ?_ | refine pwt_fork ?_ | refine pwt_lin ?_ | (refine po_test rfl rfl rfl rfl zB ?_ ?_ <;> intro hb <;> first | exact zX | refine zDn ?_) | refine zq5 ?_ | refine zq6 ?_ | (refine zT ?_ ?_ <;> intro h <;> first | exact zX | refine zNq ?_)))
   ·exact ret_gen j { b0 with r0 := ⟨_, _⟩, r1 := ⟨_, _⟩, r2 := ⟨v, v⟩ } _ rfl ((hb0.ends hr0 hr1).proto (hv' v hv)) hj rfl rfl (fun _ => rfl)
   ·exact ret_gen j { b0 with r0 := ⟨_, _⟩, r1 := ⟨_, _⟩ } _ rfl (hb0.ends hr0 hr1) hj rfl rfl (fun _ => rfl)
  ·exact ret_gen j { b0 with r2 := ⟨v, v⟩ } _ rfl (hb0.proto (hv' v hv)) hj rfl rfl (fun _ => rfl)
  ·exact ret_gen j b0 _ rfl hb0 hj rfl rfl (fun _ => rfl)
 ·(repeat' (first | (refine zDr [[0,1,2,3,4,5],[6],[7,8,9],[10],[11,12,13,14],[15]] ?_; refine zDn ?_) | refine zS ?_ | (refine zg1 ?_; intro x j hx hj; refine zNp ?_) | (refine zg2 ?_; intro v hv; refine zNp ?_) | refine zg3 ?_ | refine zD ?_ | (refine zg4 ?_; intro x j hx hj; refine ⟨zLok, ?_⟩; refine zDn ?_) | (refine zg5 ?_; intro v hv; refine zDn ?_) | refine zg6 ?_ | refine po_both ?_ ?_ | refine pwt_both ?_ ?_ | refine pwt_fork ?_ | refine pwt_lin ?_ | (refine po_test rfl rfl rfl rfl zB ?_ ?_ <;> intro hb <;> first | exact zX | refine zDn ?_) | refine zq5 ?_ | refine zq6 ?_ | (refine zT ?_ ?_ <;> intro h <;> first | exact zX | refine zNq ?_)))
  ·exact ret_gen j { b0 with r2 := ⟨v, v⟩ } _ rfl (hb0.proto (hv' v hv)) hj rfl rfl (fun _ => rfl)
  ·exact ret_gen j b0 _ rfl hb0 hj rfl rfl (fun _ => rfl)

end
end Go.Proofs.YtokclomhkggikaaGreatDoor