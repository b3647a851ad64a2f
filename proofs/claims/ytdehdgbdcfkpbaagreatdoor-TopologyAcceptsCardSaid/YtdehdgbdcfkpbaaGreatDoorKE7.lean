/-
  Contracts of functions, walked over pure values.
-/
import Derived.Test.YtdehdgbdcfkpbaaGreatDoorKE6
import Derived.Test.YtdehdgbdcfkpbaaGreatDoorKA7
namespace Go.Proofs.YtdehdgbdcfkpbaaGreatDoor
open Go Go.Pw
variable {Gl : Glob}
attribute [local irreducible] PW PWL OpP PCalls PWO
set_option maxHeartbeats 20000000
set_option maxRecDepth 100000

/-! ### the reference's Fixed, over the reader's own arrays -/
theorem c51A (t : Topo) (ht : TOk t) (told : Bool) (c : Caps) : PCalls Tryz.prog Gl 51 [.agg (mTopo 1 t c)] (pst t told c) fun r s => r = .sl ((fixed t.edges).map ePfx) ∧ s = pst t told c := by
  refine PCalls.of hT Tryz.func51 rfl 5 (Nat.le_of_ble_eq_true rfl) fun B hD => ?_
  refine pw_norm rfl ?_
  have hl := ht.edges
  unfold Small at hl
  (refine zGo ?_)
  refine pw_ghost 2 ?_
  refine pw_norm rfl ?_
  refine pw_room 3 (k := 6) (cap := c.2.2.1) (xs := t.edges.map eEdge) rfl fun hroom => ?_
  have hroom : t.edges.length ≤ c.2.2.1 := by simpa using hroom
  refine pw_for hD (fun a : Nat × List TPfx × Nat => [(3, .msl 2 6 0 (a.2.1.map ePfx).length a.2.2), (4, .int .i64 a.1)]) (fun a => pst t told c ++ [.box (mTopo 1 t c), .arr 2 (a.2.1.map ePfx) a.2.2])
    (fun a => a.1 ≤ t.edges.length ∧ a.2.1.length ≤ a.1 ∧ a.2.1 ++ fixed (t.edges.drop a.1) = fixed t.edges) (fun a => t.edges.length - a.1) (0, [], 0) ⟨Nat.zero_le _, Nat.zero_le _, rfl⟩ 7 rfl (fun _ => rfl) (by (exact zLes)) (fun _ => rfl) (fun _ => rfl) (by (exact zLe)) ?_
  rintro ⟨i, out, cap⟩ ⟨hi, ho, hw⟩
  dsimp only at hi ho hw ⊢
  (refine zGo ?_)
  refine pw_cond rfl (fun h1 => ?_) (fun h1 => ?_)
  · simp only [decide_eq_true_eq, List.length_map] at h1
    have hlt : i < t.edges.length := by omega
    have hcap0 : c.2.2.1 ≠ 0 := by omega
    have hdr : fixed (t.edges.drop i) = (if !(t.edges[i].planned) then t.edges[i].pfx :: fixed (t.edges.drop (i + 1)) else fixed (t.edges.drop (i + 1))) := by
      rw [List.drop_eq_getElem_cons hlt]
      unfold fixed
      rw [List.filter_cons]
      split <;> rfl
    have hp : (t.edges.map eEdge)[0 + i]? = some (eEdge t.edges[i]) := by simp [hlt]
    rw [hdr] at hw
    generalize t.edges[i] = x at hp hw
    (refine zGo ?_)
    (refine pl_op rfl (op_of (v_indexm hT rfl rfl rfl rfl rfl (by omega) (by simp; omega) (hcap0)) ?_); (refine zNp ?_))
    (refine zGo ?_)
    (refine pl_op rfl (op_loadE (x0 := eEdge x) hT rfl rfl rfl rfl rfl (hcap0) (hp) rfl ?_); (refine zNp ?_))
    (refine zGo ?_)
    refine pw_cond rfl (fun h2 => ?_) (fun h2 => ?_)
    · rw [if_pos h2] at hw
      (refine zGo ?_)
      (refine pl_op rfl (op_of (v_indexm hT rfl rfl rfl rfl rfl (by omega) (by simp; omega) (hcap0)) ?_); (refine zNp ?_))
      (refine zGo ?_)
      (refine pl_op rfl (op_loadE (x0 := eEdge x) hT rfl rfl rfl rfl rfl (hcap0) (hp) rfl ?_); (refine zNp ?_))
      (refine zGo ?_)
      (refine pl_append (b := 16) hT hD rfl rfl rfl rfl rfl rfl rfl rfl (.inl (Nat.zero_lt_succ _)) rfl rfl (by simp; omega) (fun cap' _ hcap => ?_); (refine zNp ?_))
      (refine zGo ?_)
      refine ⟨(i + 1, out ++ [x.pfx], cap'), ⟨hlt, by show (out ++ [_]).length ≤ i + 1; simp; omega, by rw [← hw]; simp⟩, by show _ - (i + 1) < _ - i; omega, ?_, ?_⟩
      · simp only [List.map_append, List.length_append]
        (exact zLe)
      · simp only [List.map_append]
        (exact zLes)
    · rw [if_neg (by rw [h2]; exact Bool.false_ne_true)] at hw
      (refine zGo ?_)
      exact ⟨(i + 1, out, cap), ⟨hlt, by show out.length ≤ i + 1; omega, hw⟩, by show _ - (i + 1) < _ - i; omega, by (exact zLe), by (exact zLes)⟩
  · simp only [decide_eq_false_iff_not, List.length_map] at h1
    have hie : i = t.edges.length := by omega
    have hw' : out = fixed t.edges := by rw [← hw, hie, List.drop_length]; simp [fixed]
    subst hw'
    (refine zGo ?_)
    exact ⟨_, _, _, rfl, ⟨rfl, rfl⟩, .inr (.inr (.inr (.inl ⟨_, _, _, _, _, _, rfl, rfl, rfl, rfl, rfl⟩))), ⟨.inr (.inl rfl), .inr (.inl rfl), .inr (.inl rfl), .inr (.inl rfl), .inr (.inl rfl), trivial⟩, rfl, rfl⟩
/-! ### edges -/
theorem fixed_small {t : Topo} (h : Small t.edges) : Small (fixed t.edges) := by
  unfold Small fixed at *
  rw [List.length_map]
  have := List.length_filter_le (fun e => !e.planned) t.edges
  omega
theorem c119 (t : Topo) (ht : TOk t) (told : Bool) (c : Caps) (w : List Str) (hw : WOk w) : PCalls Tryz.prog Gl 119 [.ptr 0 0, .sl (w.map .str)] (pst t told c) fun r s => LinePost (qEdge t told w) r s := by
  refine PCalls.of hT Tryz.func119 rfl 5 (Nat.le_refl _) fun B hD => ?_
  refine pw_norm rfl ?_
  have hwl := hw.len
  unfold Small at hwl
  rw [qEdge]
  (refine zGo ?_)
  have l8 : ((((w.map PV.str).length : Int) != 8) = false) → w.length = 8 := fun h => by simp at h; omega
  (refine pl_or 5 12 17 (!(w.getD 2 [] == kAt)) rfl rfl rfl (fun hb => ?_) (fun hb => ?_) ?_; (focus ((refine zNp ?_); (refine zGo ?_); exact ⟨by (exact zLe), StLe.refl _⟩)); (focus ((refine zNp ?_); (refine zGo ?_); have hlen := l8 hb; (refine pl_on rfl rfl (op_of (v_index (p := .str (w.getD 2 [])) hT rfl rfl rfl rfl (by omega) (str_at w 2 (by omega)) rfl) ?_); (refine zNp ?_)); (refine zGo ?_); exact ⟨by (exact zLe), StLe.refl _⟩)); (refine zNp ?_); (refine zGo ?_))
  (refine pl_or 5 18 23 (!(w.getD 4 [] == kZone)) rfl rfl rfl (fun hb => ?_) (fun hb => ?_) ?_; (focus ((refine zNp ?_); (refine zGo ?_); exact ⟨by (exact zLe), StLe.refl _⟩)); (focus ((refine zNp ?_); (refine zGo ?_); have hlen := l8 (Bool.or_eq_false_iff.1 hb).1; (refine pl_on rfl rfl (op_of (v_index (p := .str (w.getD 4 [])) hT rfl rfl rfl rfl (by omega) (str_at w 4 (by omega)) rfl) ?_); (refine zNp ?_)); (refine zGo ?_); exact ⟨by (exact zLe), StLe.refl _⟩)); (refine zNp ?_); (refine zGo ?_))
  (refine pl_or 6 24 30 (!vname (w.getD 1 [])) rfl rfl rfl (fun hb => ?_) (fun hb => ?_) ?_; (focus ((refine zNp ?_); (refine zGo ?_); exact ⟨by (exact zLe), StLe.refl _⟩)); (focus ((refine zNp ?_); (refine zGo ?_); have hlen := l8 (Bool.or_eq_false_iff.1 (Bool.or_eq_false_iff.1 hb).1).1; (refine pl_on rfl rfl (op_of (v_index (p := .str (w.getD 1 [])) hT rfl rfl rfl rfl (by omega) (str_at w 1 (by omega)) rfl) ?_); (refine zNp ?_)); (refine zGo ?_); (refine pl_on rfl rfl (op_fun (c92 (w.getD 1 [])) rfl rfl e92 zLe rfl (fun r hr => ?_)); subst hr; refine ⟨rfl, ?_⟩; (refine zNp ?_)); (refine zGo ?_); exact ⟨by (exact zLe), StLe.refl _⟩)); (refine zNp ?_); (refine zGo ?_))
  (refine pl_or 6 31 37 (!vname (w.getD 5 [])) rfl rfl rfl (fun hb => ?_) (fun hb => ?_) ?_; (focus ((refine zNp ?_); (refine zGo ?_); exact ⟨by (exact zLe), StLe.refl _⟩)); (focus ((refine zNp ?_); (refine zGo ?_); have hlen := l8 (Bool.or_eq_false_iff.1 (Bool.or_eq_false_iff.1 (Bool.or_eq_false_iff.1 hb).1).1).1; (refine pl_on rfl rfl (op_of (v_index (p := .str (w.getD 5 [])) hT rfl rfl rfl rfl (by omega) (str_at w 5 (by omega)) rfl) ?_); (refine zNp ?_)); (refine zGo ?_); (refine pl_on rfl rfl (op_fun (c92 (w.getD 5 [])) rfl rfl e92 zLe rfl (fun r hr => ?_)); subst hr; refine ⟨rfl, ?_⟩; (refine zNp ?_)); (refine zGo ?_); exact ⟨by (exact zLe), StLe.refl _⟩)); (refine zNp ?_); (refine zGo ?_))
  refine pw_cond rfl (fun h => ?_) (fun h => ?_)
  · rw [List.length_map] at h
    rw [ifT (show qHead w = true from h)]
    (refine zGo ?_)
    exact ⟨_, _, _, rfl, ⟨c, rfl, rfl⟩, .inr (.inl rfl), ⟨.inr (.inl rfl), .inr (.inl rfl), .inr (.inl rfl), .inr (.inl rfl), .inr (.inl rfl), trivial⟩, rfl, rfl⟩
  have hlen : w.length = 8 := l8 (Bool.or_eq_false_iff.1 (Bool.or_eq_false_iff.1 (Bool.or_eq_false_iff.1 (Bool.or_eq_false_iff.1 h).1).1).1).1
  rw [List.length_map] at h
  rw [ifF (show qHead w = false from h)]
  clear h l8
  (refine zGo ?_)
  refine pw_join hD True [(5, .ptr 5 0)] [pBox t told c, .arr 5 (t.devs.map eDev) c.1, .arr 3 (t.links.map eLink) c.2.1, .arr 6 (t.edges.map eEdge) c.2.2.1, .arr 2 (t.pools.map ePfx) c.2.2.2, .box [.str (w.getD 1 []), .int .i64 (tDevice t (w.getD 3 [])), .str (w.getD 5 []), .int .u32 0, .int .i64 0, .bool false]] 6 rfl rfl rfl rfl ?_ (fun _ => ?_)
  · refine pw_drawF [(0, true), (1, true), (2, true), (3, true), (4, true), (5, true), (6, true), (7, true), (8, true), (9, true), (10, true), (11, true), (12, true)] 13 [(14, true), (15, false), (16, false)] 15 [(13, false), (14, true), (16, false)] hmix (by decide +kernel) ?_
    (refine zDgo ?_)
    (refine po_val rfl rfl (v_index (p := .str (w.getD 1 [])) hT rfl rfl rfl rfl (by omega) (str_at w 1 (by omega)) rfl) ?_; refine zDn ?_)
    (refine zDgo ?_)
    (refine po_val rfl rfl (v_index (p := .str (w.getD 5 [])) hT rfl rfl rfl rfl (by omega) (str_at w 5 (by omega)) rfl) ?_; refine zDn ?_)
    (refine zDgo ?_)
    (refine po_val rfl rfl (v_index (p := .str (w.getD 3 [])) hT rfl rfl rfl rfl (by omega) (str_at w 3 (by omega)) rfl) ?_; refine zDn ?_)
    (refine zDgo ?_)
    refine ⟨?_, ?_⟩
    · (refine po_step rfl rfl (op_lend0 (c66' t (w.getD 3 []) ht.devs) rfl rfl e66 zLef rfl (fun r hr => ?_)); subst hr; refine ⟨rfl, zLok, ?_⟩; refine zDn ?_)
      (refine zDgo ?_)
      exact ⟨trivial, by (exact zLe), by (exact zLes)⟩
    · (refine zDgo ?_)
      (refine po_step rfl rfl (op_lend0 (c66' t (w.getD 3 []) ht.devs) rfl rfl e66 zLef rfl (fun r hr => ?_)); subst hr; refine ⟨rfl, zLok, ?_⟩; refine zDn ?_)
      (refine zDgo ?_)
      exact ⟨trivial, by (exact zLe), by (exact zLes)⟩
  (refine zGo ?_)
  (refine pl_op rfl (op_of (v_index (p := .str (w.getD 6 [])) hT rfl rfl rfl rfl (by omega) (str_at w 6 (by omega)) rfl) ?_); (refine zNp ?_))
  (refine zGo ?_)
  refine pw_joinY hD (fun _ : Unit => (if w.getD 6 [] == kSub then !(pfxParse (w.getD 7 [])).2 else !(w.getD 6 [] == kSize)) = false) (fun _ => [(5, .ptr 5 0), (6, .int .i64 (qPf w).2)]) (fun _ => [pBox t told c, .arr 5 (t.devs.map eDev) c.1, .arr 3 (t.links.map eLink) c.2.1, .arr 6 (t.edges.map eEdge) c.2.2.1, .arr 2 (t.pools.map ePfx) c.2.2.2, .box [.str (w.getD 1 []), .int .i64 (tDevice t (w.getD 3 [])), .str (w.getD 5 []), .int .u32 (qPf w).1.addr, .int .i64 (qPf w).1.bits, .bool (qPl w)]]) 6 rfl (fun _ => rfl) (fun _ => rfl) (fun _ => rfl) (fun _ _ h => h) ?_ ?_
  · refine pw_cond rfl (fun h => ?_) (fun h => ?_)
    · have h' : (w.getD 6 [] == kSub) = true := h
      rw [ifT h', show qPf w = ((pfxParse (w.getD 7 [])).1, if decide ((pfxParse (w.getD 7 [])).1.bits < 1) then 2 else 0) by rw [qPf, ifT h'], show qPl w = false by rw [qPl, h']; rfl]
      (refine zGo ?_)
      (refine pl_op rfl (op_of (v_index (p := .str (w.getD 7 [])) hT rfl rfl rfl rfl (by omega) (str_at w 7 (by omega)) rfl) ?_); (refine zNp ?_))
      (refine zGo ?_)
      (refine pl_op rfl (op_fun (c120 (w.getD 7 []) (hw.small 7)) rfl rfl e120 zLe rfl (fun r hr => ?_)); subst hr; refine ⟨rfl, ?_⟩; (refine zNp ?_))
      generalize pfxParse (w.getD 7 []) = X
      (refine zGo ?_)
      refine pw_cond rfl (fun h2 => ?_) (fun h2 => ?_)
      · rw [ifT h2]
        (refine zGo ?_)
        exact ⟨_, _, _, rfl, ⟨c, rfl, rfl⟩, .inr (.inl rfl), ⟨.inr (.inl rfl), .inr (.inl rfl), .inr (.inl rfl), .inr (.inl rfl), .inr (.inl rfl), trivial⟩, rfl, rfl⟩
      rw [ifF h2]
      (refine zGo ?_)
      refine pw_cond rfl (fun h3 => ?_) (fun h3 => ?_)
      · rw [ifT h3]
        (refine zGo ?_)
        exact ⟨(), h2, by (exact zLe), by (exact zLes)⟩
      · rw [ifF h3]
        (refine zGo ?_)
        exact ⟨(), h2, by (exact zLe), by (exact zLes)⟩
    · have h' : (w.getD 6 [] == kSub) = false := h
      rw [ifF h', show qPf w = (⟨0, (tnum (w.getD 7 []) 1 32).1⟩, (tnum (w.getD 7 []) 1 32).2) by rw [qPf, ifF h'], show qPl w = true by rw [qPl, h']; rfl]
      (refine zGo ?_)
      refine pw_cond rfl (fun h2 => ?_) (fun h2 => ?_)
      · have h2' : (w.getD 6 [] == kSize) = true := h2
        rw [h2']
        (refine zGo ?_)
        (refine pl_op rfl (op_of (v_index (p := .str (w.getD 7 [])) hT rfl rfl rfl rfl (by omega) (str_at w 7 (by omega)) rfl) ?_); (refine zNp ?_))
        (refine zGo ?_)
        (refine pl_op rfl (op_fun (c121 (w.getD 7 []) 1 32 (hw.small 7) (by decide)) rfl rfl e121 zLe rfl (fun r hr => ?_)); subst hr; refine ⟨rfl, ?_⟩; (refine zNp ?_))
        (refine zGo ?_)
        exact ⟨(), rfl, by (exact zLe), by (exact zLes)⟩
      · have h2' : (w.getD 6 [] == kSize) = false := h2
        rw [h2', ifT (show (!false) = true from rfl)]
        (refine zGo ?_)
        exact ⟨_, _, _, rfl, ⟨c, rfl, rfl⟩, .inr (.inl rfl), ⟨.inr (.inl rfl), .inr (.inl rfl), .inr (.inl rfl), .inr (.inl rfl), .inr (.inl rfl), trivial⟩, rfl, rfl⟩
  intro _ hφ
  rw [ifF hφ]
  generalize hF : qPf w = F
  generalize hG : qPl w = pl
  (refine zGo ?_)
  refine pw_cond rfl (fun h1 => ?_) (fun h1 => ?_)
  · rw [ifT h1]
    (refine zGo ?_)
    exact ⟨_, _, _, rfl, ⟨c, rfl, rfl⟩, .inr (.inl rfl), ⟨.inr (.inl rfl), .inr (.inl rfl), .inr (.inl rfl), .inr (.inl rfl), .inr (.inl rfl), trivial⟩, rfl, rfl⟩
  rw [ifF h1]
  (refine zGo ?_)
  refine pw_cond rfl (fun h2 => ?_) (fun h2 => ?_)
  · rw [ifT h2]
    (refine zGo ?_)
    exact ⟨_, _, _, rfl, ⟨c, rfl, rfl⟩, .inr (.inl rfl), ⟨.inr (.inl rfl), .inr (.inl rfl), .inr (.inl rfl), .inr (.inl rfl), .inr (.inl rfl), trivial⟩, rfl, rfl⟩
  rw [ifF h2]
  (refine zGo ?_)
  refine pw_draw [(0, true), (1, true), (2, true), (3, true), (4, true), (5, true), (6, false), (7, true), (8, true)] hmix (by decide +kernel) ?_
  (refine zDgo ?_)
  (refine po_step rfl rfl (op_lend0 (c50 t (w.getD 1 []) ht.edges) rfl rfl e50 zLef rfl (fun r hr => ?_)); subst hr; refine ⟨rfl, zLok, ?_⟩; refine zDn ?_)
  (refine zDgo ?_)
  (refine zGo ?_)
  refine pw_cond rfl (fun h3 => ?_) (fun h3 => ?_)
  · rw [ifT h3]
    (refine zGo ?_)
    exact ⟨_, _, _, rfl, ⟨c, rfl, rfl⟩, .inr (.inl rfl), ⟨.inr (.inl rfl), .inr (.inl rfl), .inr (.inl rfl), .inr (.inl rfl), .inr (.inl rfl), trivial⟩, rfl, rfl⟩
  rw [ifF h3]
  have hpl := ht.edges
  unfold Small at hpl
  (refine zGo ?_)
  refine pw_draw [(0, true), (1, true), (2, true), (3, true), (4, true), (5, true), (6, true), (7, true), (8, true), (9, true), (10, false), (11, false), (12, true), (13, true)] hmix (by decide +kernel) ?_
  (refine zDgo ?_)
  refine po_split 105 rfl (fun h4 => ?_) (fun h4 => ?_)
  (refine zDgo ?_)
  (refine po_on rfl rfl rfl (op_callA [0, 1, 2, 3, 4] rfl rfl e51 (by decide) rfl rfl rfl zLe zLes (c51A t ht told c) (fun r s hq => ?_)); obtain ⟨rfl, rfl⟩ := hq; refine ⟨rfl, rfl, zLok, ?_⟩; refine zDn ?_)
  (refine zDgo ?_)
  (refine po_on rfl rfl rfl (op_fun (c52 F.1 (fixed t.edges) (fixed_small ht.edges)) rfl rfl e52 zLe rfl (fun r hr => ?_)); subst hr; refine ⟨rfl, zLok, ?_⟩; refine zDn ?_)
  (refine zDgo ?_)
  rw [h4, Bool.true_and]
  (refine pw_mv 1 7 hD rfl rfl rfl rfl rfl ?_; refine pw_norm rfl ?_)
  (refine pw_mv 2 8 hD rfl rfl rfl rfl rfl ?_; refine pw_norm rfl ?_)
  (refine pw_mv 3 9 hD rfl rfl rfl rfl rfl ?_; refine pw_norm rfl ?_)
  (refine pw_mv 4 10 hD rfl rfl rfl rfl rfl ?_; refine pw_norm rfl ?_)
  (refine pw_trim 6 hD rfl rfl ?_; refine pw_norm rfl ?_)
  (refine zGo ?_)
  refine pw_cond rfl (fun h5 => ?_) (fun h5 => ?_)
  · rw [ifT h5]
    (refine zGo ?_)
    exact ⟨_, _, _, rfl, ⟨c, rfl, rfl⟩, .inr (.inl rfl), ⟨.inr (.inl rfl), .inr (.inl rfl), .inr (.inl rfl), .inr (.inl rfl), .inr (.inl rfl), trivial⟩, rfl, rfl⟩
  rw [ifF h5]
  (refine zGo ?_)
  rotate_left
  (refine zDgo ?_)
  rw [h4, Bool.false_and, ifF (show false = false from rfl)]
  (refine zGo ?_)
  all_goals (
    refine pw_cond rfl (fun h6 => ?_) (fun h6 => ?_)
    · rw [List.length_map] at h6
      rw [ifT h6]
      (refine zGo ?_)
      exact ⟨_, _, _, rfl, ⟨c, rfl, rfl⟩, .inr (.inl rfl), ⟨.inr (.inl rfl), .inr (.inl rfl), .inr (.inl rfl), .inr (.inl rfl), .inr (.inl rfl), trivial⟩, rfl, rfl⟩
    rw [List.length_map] at h6
    rw [ifF h6]
    (refine zGo ?_)
    refine pw_draw [(0, true), (1, true), (2, true), (3, true), (4, true), (5, true), (6, true), (7, true), (8, false), (9, true), (10, true), (11, true), (12, false)] hmix (by decide +kernel) ?_
    (refine zDgo ?_)
    (refine po_make rfl rfl (fun st' K hK => op_litF hT rfl rfl rfl rfl rfl (by decide) rfl rfl rfl rfl hK) ?_; refine zDn ?_)
    (refine po_step rfl rfl (op_append (b := 64) hT rfl rfl rfl rfl rfl rfl (.inl (Nat.zero_lt_succ _)) rfl rfl (by simp; omega) (fun cap' _ hcap => ⟨zLok, ?_⟩)); refine zDn ?_)
    (refine zDgo ?_)
    (refine pw_mv 3 6 hD rfl rfl rfl rfl rfl ?_; refine pw_norm rfl ?_)
    (refine pw_trim 6 hD rfl rfl ?_; refine pw_norm rfl ?_)
    (refine zGo ?_)
    refine ⟨_, _, pst _ told (c.1, c.2.1, cap', c.2.2.2), rfl, ⟨_, rfl, rfl⟩, .inr (.inl rfl), ?_, rfl, rfl⟩
    simp only [pst, pBox, List.map_append, List.length_append]
    exact ⟨.inr (.inl rfl), .inr (.inl rfl), .inr (.inl rfl), .inr (.inl rfl), .inr (.inl rfl), trivial⟩)
end Go.Proofs.YtdehdgbdcfkpbaaGreatDoor
