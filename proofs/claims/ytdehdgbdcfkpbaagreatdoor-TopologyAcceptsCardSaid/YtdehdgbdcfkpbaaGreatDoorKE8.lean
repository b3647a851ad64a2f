/-
  Contracts of functions, walked over pure values.
-/
import Derived.Test.YtdehdgbdcfkpbaaGreatDoorKE7
namespace Go.Proofs.YtdehdgbdcfkpbaaGreatDoor
open Go Go.Pw
variable {Gl : Glob}
attribute [local irreducible] PW PWL OpP PCalls PWO
set_option maxHeartbeats 20000000
set_option maxRecDepth 100000

/-! ### the reference's reader: a line -/
theorem c82 (t : Topo) (ht : TOk t) (told : Bool) (c : Caps) (w : List Str) (hw : WOk w) (h0 : 0 < w.length) : PCalls Tryz.prog Gl 82 [.ptr 0 0, .sl (w.map .str)] (pst t told c) fun r s => LinePost (qLine t told w) r s := by
  refine PCalls.of hT Tryz.func82 rfl 5 (Nat.le_refl _) fun B hD => ?_
  refine pw_norm rfl ?_
  have hwl := hw.len
  unfold Small at hwl
  (refine zGo ?_)
  (refine pl_op rfl (op_of (v_index (p := .str (w.getD 0 [])) hT rfl rfl rfl rfl (by omega) (str_at w 0 h0) rfl) ?_); (refine zNp ?_))
  (refine zGo ?_)
  refine pw_cond rfl (fun h => ?_) (fun h => ?_)
  · rw [show qLine t told w = qDev t told w from ifT h]
    (refine zGo ?_)
    (refine pl_op rfl (op_callA [0, 1, 2, 3, 4] rfl rfl e117 (by decide) rfl rfl rfl zLe zLes (c117 t ht told c w hw) (fun r s hq => ?_)); obtain ⟨c', rfl, rfl⟩ := hq; refine ⟨rfl, rfl, ?_⟩; (refine zNp ?_))
    refine pl_pure hT rfl ?_
    refine pl_nil ?_
    (refine pw_mv 1 6 hD rfl rfl rfl rfl rfl ?_; refine pw_norm rfl ?_)
    (refine pw_mv 2 7 hD rfl rfl rfl rfl rfl ?_; refine pw_norm rfl ?_)
    (refine pw_mv 3 8 hD rfl rfl rfl rfl rfl ?_; refine pw_norm rfl ?_)
    (refine pw_mv 4 9 hD rfl rfl rfl rfl rfl ?_; refine pw_norm rfl ?_)
    (refine pw_trim 5 hD rfl rfl ?_; refine pw_norm rfl ?_)
    (refine zGo ?_)
    exact ⟨_, _, _, rfl, ⟨c', rfl, rfl⟩, .inr (.inl rfl), ⟨.inr (.inl rfl), .inr (.inl rfl), .inr (.inl rfl), .inr (.inl rfl), .inr (.inl rfl), trivial⟩, rfl, rfl⟩
  have e1 : qLine t told w = _ := ifF h
  rw [e1]
  clear e1
  (refine zGo ?_)
  refine pw_cond rfl (fun h => ?_) (fun h => ?_)
  · rw [ifT (show (w.getD 0 [] == kLink) = true from h)]
    (refine zGo ?_)
    (refine pl_op rfl (op_callA [0, 1, 2, 3, 4] rfl rfl e118 (by decide) rfl rfl rfl zLe zLes (c118 t ht told c w hw) (fun r s hq => ?_)); obtain ⟨c', rfl, rfl⟩ := hq; refine ⟨rfl, rfl, ?_⟩; (refine zNp ?_))
    refine pl_pure hT rfl ?_
    refine pl_nil ?_
    (refine pw_mv 1 6 hD rfl rfl rfl rfl rfl ?_; refine pw_norm rfl ?_)
    (refine pw_mv 2 7 hD rfl rfl rfl rfl rfl ?_; refine pw_norm rfl ?_)
    (refine pw_mv 3 8 hD rfl rfl rfl rfl rfl ?_; refine pw_norm rfl ?_)
    (refine pw_mv 4 9 hD rfl rfl rfl rfl rfl ?_; refine pw_norm rfl ?_)
    (refine pw_trim 5 hD rfl rfl ?_; refine pw_norm rfl ?_)
    (refine zGo ?_)
    exact ⟨_, _, _, rfl, ⟨c', rfl, rfl⟩, .inr (.inl rfl), ⟨.inr (.inl rfl), .inr (.inl rfl), .inr (.inl rfl), .inr (.inl rfl), .inr (.inl rfl), trivial⟩, rfl, rfl⟩
  rw [ifF (show (w.getD 0 [] == kLink) = false from h)]
  (refine zGo ?_)
  refine pw_cond rfl (fun h => ?_) (fun h => ?_)
  · rw [ifT (show (w.getD 0 [] == kEdge) = true from h)]
    (refine zGo ?_)
    (refine pl_op rfl (op_callA [0, 1, 2, 3, 4] rfl rfl e119 (by decide) rfl rfl rfl zLe zLes (c119 t ht told c w hw) (fun r s hq => ?_)); obtain ⟨c', rfl, rfl⟩ := hq; refine ⟨rfl, rfl, ?_⟩; (refine zNp ?_))
    refine pl_pure hT rfl ?_
    refine pl_nil ?_
    (refine pw_mv 1 6 hD rfl rfl rfl rfl rfl ?_; refine pw_norm rfl ?_)
    (refine pw_mv 2 7 hD rfl rfl rfl rfl rfl ?_; refine pw_norm rfl ?_)
    (refine pw_mv 3 8 hD rfl rfl rfl rfl rfl ?_; refine pw_norm rfl ?_)
    (refine pw_mv 4 9 hD rfl rfl rfl rfl rfl ?_; refine pw_norm rfl ?_)
    (refine pw_trim 5 hD rfl rfl ?_; refine pw_norm rfl ?_)
    (refine zGo ?_)
    exact ⟨_, _, _, rfl, ⟨c', rfl, rfl⟩, .inr (.inl rfl), ⟨.inr (.inl rfl), .inr (.inl rfl), .inr (.inl rfl), .inr (.inl rfl), .inr (.inl rfl), trivial⟩, rfl, rfl⟩
  rw [ifF (show (w.getD 0 [] == kEdge) = false from h)]
  (refine zGo ?_)
  refine pl_or 11 30 41 (!(w.getD 0 [] == kPool) && !(w.getD 0 [] == kTol)) rfl rfl rfl (fun _ => ?_) (fun _ => ?_) ?_
  · refine pl_norm rfl ?_
    (refine zGo ?_)
    exact ⟨by (exact zLe), StLe.refl _⟩
  · refine pl_norm rfl ?_
    (refine zGo ?_)
    (refine pl_on rfl rfl (op_of (v_index (p := .str (w.getD 0 [])) hT rfl rfl rfl rfl (by omega) (str_at w 0 h0) rfl) ?_); (refine zNp ?_))
    (refine zGo ?_)
    refine pl_and 5 35 40 (!(w.getD 0 [] == kTol)) rfl rfl rfl (fun _ => ?_) (fun _ => ?_) ?_
    · refine pl_norm rfl ?_
      (refine zGo ?_)
      (refine pl_on rfl rfl (op_of (v_index (p := .str (w.getD 0 [])) hT rfl rfl rfl rfl (by omega) (str_at w 0 h0) rfl) ?_); (refine zNp ?_))
      (refine zGo ?_)
      exact ⟨by (exact zLe), StLe.refl _⟩
    · refine pl_norm rfl ?_
      (refine zGo ?_)
      exact ⟨by (exact zLe), StLe.refl _⟩
    refine pl_norm rfl ?_
    (refine zGo ?_)
    exact ⟨by (exact zLe), StLe.refl _⟩
  refine pl_norm rfl ?_
  (refine zGo ?_)
  refine pw_cond rfl (fun h => ?_) (fun h => ?_)
  · rw [List.length_map] at h
    rw [ifT h]
    (refine zGo ?_)
    exact ⟨_, _, _, rfl, ⟨c, rfl, rfl⟩, .inr (.inl rfl), ⟨.inr (.inl rfl), .inr (.inl rfl), .inr (.inl rfl), .inr (.inl rfl), .inr (.inl rfl), trivial⟩, rfl, rfl⟩
  rw [List.length_map] at h
  rw [ifF h]
  have hlen : w.length = 2 := by have := (Bool.or_eq_false_iff.1 h).1; simp at this; omega
  clear h
  (refine zGo ?_)
  (refine pl_op rfl (op_of (v_index (p := .str (w.getD 0 [])) hT rfl rfl rfl rfl (by omega) (str_at w 0 h0) rfl) ?_); (refine zNp ?_))
  (refine zGo ?_)
  refine pw_cond rfl (fun h => ?_) (fun h => ?_)
  · rw [ifT (show (w.getD 0 [] == kPool) = true from h), qPool]
    (refine zGo ?_)
    (refine pl_op rfl (op_of (v_index (p := .str (w.getD 1 [])) hT rfl rfl rfl rfl (by omega) (str_at w 1 (by omega)) rfl) ?_); (refine zNp ?_))
    (refine zGo ?_)
    (refine pl_op rfl (op_fun (c120 (w.getD 1 []) (hw.small 1)) rfl rfl e120 zLe rfl (fun r hr => ?_)); subst hr; refine ⟨rfl, ?_⟩; (refine zNp ?_))
    generalize pfxParse (w.getD 1 []) = X
    (refine zGo ?_)
    refine pw_cond rfl (fun h1 => ?_) (fun h1 => ?_)
    · rw [ifT h1]
      (refine zGo ?_)
      exact ⟨_, _, _, rfl, ⟨c, rfl, rfl⟩, .inr (.inl rfl), ⟨.inr (.inl rfl), .inr (.inl rfl), .inr (.inl rfl), .inr (.inl rfl), .inr (.inl rfl), trivial⟩, rfl, rfl⟩
    rw [ifF h1]
    (refine zGo ?_)
    refine pw_draw [(0, true), (1, true), (2, true), (3, true), (4, true), (5, true), (6, false), (7, true)] hmix (by decide +kernel) ?_
    (refine zDgo ?_)
    (refine po_step rfl rfl (op_lend0 (c52 X.1 t.pools ht.pools) rfl rfl e52 zLef rfl (fun r hr => ?_)); subst hr; refine ⟨rfl, zLok, ?_⟩; refine zDn ?_)
    (refine zDgo ?_)
    (refine zGo ?_)
    refine pw_cond rfl (fun h2 => ?_) (fun h2 => ?_)
    · rw [ifT h2]
      (refine zGo ?_)
      exact ⟨_, _, _, rfl, ⟨c, rfl, rfl⟩, .inr (.inl rfl), ⟨.inr (.inl rfl), .inr (.inl rfl), .inr (.inl rfl), .inr (.inl rfl), .inr (.inl rfl), trivial⟩, rfl, rfl⟩
    rw [ifF h2]
    (refine zGo ?_)
    refine pw_cond rfl (fun h3 => ?_) (fun h3 => ?_)
    · rw [List.length_map] at h3
      rw [ifT h3]
      (refine zGo ?_)
      exact ⟨_, _, _, rfl, ⟨c, rfl, rfl⟩, .inr (.inl rfl), ⟨.inr (.inl rfl), .inr (.inl rfl), .inr (.inl rfl), .inr (.inl rfl), .inr (.inl rfl), trivial⟩, rfl, rfl⟩
    rw [List.length_map] at h3
    rw [ifF h3]
    have hpl := ht.pools
    unfold Small at hpl
    (refine zGo ?_)
    refine pw_draw [(0, true), (1, true), (2, true), (3, true), (4, true), (5, true), (6, true), (7, true), (8, false), (9, true), (10, true), (11, true), (12, false)] hmix (by decide +kernel) ?_
    (refine zDgo ?_)
    (refine po_make rfl rfl (fun st' K hK => op_litF hT rfl rfl rfl rfl rfl (by decide) rfl rfl rfl rfl hK) ?_; refine zDn ?_)
    (refine po_step rfl rfl (op_append (b := 16) hT rfl rfl rfl rfl rfl rfl (.inl (Nat.zero_lt_succ _)) rfl rfl (by simp; omega) (fun cap' _ hcap => ⟨zLok, ?_⟩)); refine zDn ?_)
    (refine zDgo ?_)
    (refine pw_mv 4 6 hD rfl rfl rfl rfl rfl ?_; refine pw_norm rfl ?_)
    (refine pw_trim 6 hD rfl rfl ?_; refine pw_norm rfl ?_)
    (refine zGo ?_)
    refine ⟨_, _, pst _ told (c.1, c.2.1, c.2.2.1, cap'), rfl, ⟨_, rfl, rfl⟩, .inr (.inl rfl), ?_, rfl, rfl⟩
    simp only [pst, pBox, List.map_append, List.length_append]
    exact ⟨.inr (.inl rfl), .inr (.inl rfl), .inr (.inl rfl), .inr (.inl rfl), .inr (.inl rfl), trivial⟩
  rw [ifF (show (w.getD 0 [] == kPool) = false from h), qTol]
  (refine zGo ?_)
  (refine pl_op rfl (op_of (v_index (p := .str (w.getD 1 [])) hT rfl rfl rfl rfl (by omega) (str_at w 1 (by omega)) rfl) ?_); (refine zNp ?_))
  (refine zGo ?_)
  (refine pl_op rfl (op_fun (c121 (w.getD 1 []) 0 2 (hw.small 1) (by decide)) rfl rfl e121 zLe rfl (fun r hr => ?_)); subst hr; refine ⟨rfl, ?_⟩; (refine zNp ?_))
  generalize tnum (w.getD 1 []) 0 2 = N
  (refine zGo ?_)
  (refine pl_and 5 93 98 (told) rfl rfl rfl (fun hb => ?_) (fun hb => ?_) ?_; (focus ((refine zNp ?_); (refine zGo ?_); exact ⟨by (exact zLe), StLe.refl _⟩)); (focus ((refine zNp ?_); (refine zGo ?_); exact ⟨by (exact zLe), StLe.refl _⟩)); (refine zNp ?_); (refine zGo ?_))
  refine pw_cond rfl (fun h1 => ?_) (fun h1 => ?_)
  · rw [ifT h1]
    (refine zGo ?_)
    exact ⟨_, _, _, rfl, ⟨c, rfl, rfl⟩, .inr (.inl rfl), ⟨.inr (.inl rfl), .inr (.inl rfl), .inr (.inl rfl), .inr (.inl rfl), .inr (.inl rfl), trivial⟩, rfl, rfl⟩
  rw [ifF h1]
  (refine zGo ?_)
  refine pw_cond rfl (fun h2 => ?_) (fun h2 => ?_)
  · rw [ifT h2]
    have e0 : N.1 = N.1 := rfl
    have h2' : N.2 = 0 := beq_iff_eq.1 h2
    (refine zGo ?_)
    rw [h2']
    exact ⟨_, _, _, rfl, ⟨c, rfl, rfl⟩, .inr (.inl rfl), ⟨.inr (.inl rfl), .inr (.inl rfl), .inr (.inl rfl), .inr (.inl rfl), .inr (.inl rfl), trivial⟩, rfl, rfl⟩
  · rw [ifF h2]
    (refine zGo ?_)
    exact ⟨_, _, _, rfl, ⟨c, rfl, rfl⟩, .inr (.inl rfl), ⟨.inr (.inl rfl), .inr (.inl rfl), .inr (.inl rfl), .inr (.inl rfl), .inr (.inl rfl), trivial⟩, rfl, rfl⟩
end Go.Proofs.YtdehdgbdcfkpbaaGreatDoor
