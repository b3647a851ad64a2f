/-
  Contracts of functions, walked over pure values.
-/
import Derived.Test.YtdehdgbdcfkpbaaGreatDoorKE8
import Derived.Test.YtdehdgbdcfkpbaaGreatDoorKE2
import Derived.Test.YtdehdgbdcfkpbaaGreatDoorKC3
import Derived.Test.YtdehdgbdcfkpbaaGreatDoorKD2
import Derived.Test.YtdehdgbdcfkpbaaGreatDoorJPwLoop
import Derived.KernelRfl
namespace Go.Proofs.YtdehdgbdcfkpbaaGreatDoor
open Go Go.Pw
variable {Gl : Glob}
attribute [local irreducible] PW PWL OpP PCalls PWO
set_option maxHeartbeats 20000000
set_option maxRecDepth 100000

/-! ### Parse -/
theorem pLine_in {t : Topo} (h : PIn t) (told : Bool) (w : List Str) : PIn (pLine t told w).2.1 := by
  have hE : PfxIn (ePf w) := by
    unfold ePf
    split
    · exact pfx_in _
    · exact ⟨Int.le_refl 0, by show (0 : Int) < 4294967296; decide⟩
  unfold pLine
  split
  · unfold pDev
    repeat' (split; · exact h)
    exact ⟨h.edges, h.pools⟩
  split
  · unfold pLink
    repeat' (split; · exact h)
    exact ⟨h.edges, h.pools⟩
  split
  · unfold pEdge
    repeat' (split; · exact h)
    refine ⟨fun e he => ?_, h.pools⟩
    rcases List.mem_append.1 he with he | he
    · exact h.edges e he
    · rw [List.mem_singleton] at he; subst he; exact hE
  split
  · unfold pPool
    repeat' (split; · exact h)
    refine ⟨h.edges, fun e he => ?_⟩
    rcases List.mem_append.1 he with he | he
    · exact h.pools e he
    · rw [List.mem_singleton] at he; subst he; exact pfx_in _
  split
  · unfold pTol
    repeat' (split; · exact h)
    exact ⟨h.edges, h.pools⟩
  · exact h
theorem topo0_in : PIn topo0 := ⟨fun e he => (by cases he), fun e he => (by cases he)⟩
def rS (t : Topo) (told : Bool) (c : Caps) : List PObj := [box0, .box [.msl 5 2 0 (t.devs.map eDev).length c.1, .msl 3 3 0 (t.links.map eLink).length c.2.1, .msl 6 4 0 (t.edges.map eEdge).length c.2.2.1, .msl 2 5 0 (t.pools.map ePfx).length c.2.2.2, .int .i64 t.tol, .bool told],
  .arr 5 (t.devs.map eDev) c.1, .arr 3 (t.links.map eLink) c.2.1, .arr 6 (t.edges.map eEdge) c.2.2.1, .arr 2 (t.pools.map ePfx) c.2.2.2]
theorem c38 (s : Str) : PFun Tryz.prog Gl 38 [.str s] fun r => r = .tup [eTopo (tParse s).1, .int .i64 (tParse s).2.1, .int .i64 (tParse s).2.2] := by
  have hok := lines_ok s
  refine PFun.of hT Tryz.func38 rfl fun B hD => ?_
  refine pw_norm rfl ?_
  (refine zGo ?_)
  (refine pl_op rfl (op_fun (c25 s) rfl rfl e25 zLe rfl (fun r hr => ?_)); subst hr; refine ⟨rfl, ?_⟩; (refine zNp ?_))
  unfold tParse
  generalize lines s = L at hok ⊢
  obtain ⟨ls, ln, le⟩ := L
  dsimp only at hok ⊢
  (refine zGo ?_)
  refine pw_cond rfl (fun h => ?_) (fun h => ?_)
  · rw [if_pos h]
    (refine zGo ?_)
    exact ret0 _ (.tup [eTopo topo0, .int .i64 ln, .int .i64 le]) rfl rfl (by (refine .inr (.inr (.inr (.inr (.inr ⟨_, _, rfl, rfl, ?_⟩)))); (repeat (first | trivial | refine ⟨.inr (.inl rfl), ?_⟩ | refine ⟨.inr (.inr (.inl ⟨rfl, rfl⟩)), ?_⟩ | refine ⟨.inr (.inr (.inr (.inl ⟨_, _, _, _, _, _, rfl, rfl, rfl, rfl, rfl⟩))), ?_⟩ | refine ⟨.inr (.inr (.inr (.inr (.inl ⟨_, _, rfl, rfl, ?_⟩)))), ?_⟩)))) rfl
  rw [if_neg (by rw [h]; exact Bool.false_ne_true)]
  (refine zGo ?_)
  refine pw_ghost 5 ?_
  refine pw_ghost 3 ?_
  refine pw_ghost 6 ?_
  refine pw_ghost 2 ?_
  refine pw_norm rfl ?_
  refine pw_for hD (fun a : Nat × Topo × Bool × Caps => [(9, .int .i64 a.1)]) (fun a => rS a.2.1 a.2.2.1 a.2.2.2)
    (fun a => pRun (ls.drop a.1) a.2.1 a.2.2.1 = pRun ls topo0 false ∧ a.1 ≤ ls.length ∧ TLim a.2.1 ∧ PIn a.2.1) (fun a => ls.length - a.1) (0, topo0, false, (0, 0, 0, 0)) ⟨rfl, Nat.zero_le _, ⟨by decide, by decide, by decide, by decide⟩, topo0_in⟩ 6 rfl (fun _ => rfl)
    ?_ (fun _ => rfl) (fun _ => rfl) (by (exact zLe)) ?_
  · exact ⟨.inl rfl, .inr (.inr ⟨_, _, rfl, rfl, by (exact zLe)⟩), .inl rfl, .inl rfl, .inl rfl, .inl rfl, trivial⟩
  rintro ⟨i, t, told, c⟩ ⟨hw, hi, ht, hin⟩
  dsimp only
  have hi : i ≤ ls.length := hi
  have ht : TLim t := ht
  have hin : PIn t := hin
  have hw : pRun (ls.drop i) t told = pRun ls topo0 false := hw
  have hfew := hok.few
  (refine zGo ?_)
  refine pw_cond rfl (fun h1 => ?_) (fun h1 => ?_)
  · simp only [decide_eq_true_eq, List.length_map] at h1
    have hlt : i < ls.length := by omega
    have hdr : ls.drop i = ls[i] :: ls.drop (i + 1) := List.drop_eq_getElem_cons hlt
    have hsome := hok.some ls[i] (List.getElem_mem hlt)
    have hwk := hok.ok ls[i] (List.getElem_mem hlt)
    have hp : (ls.map eLine)[i]? = some (eLine ls[i]) := by simp [hlt]
    rw [hdr, pRun] at hw
    generalize ls[i] = li at hw hsome hwk hp
    obtain ⟨num, w⟩ := li
    dsimp only at hw hsome hwk
    rw [← qLine_eq ht hin] at hw
    have hxl : TLim (qLine t told w).2.1 := by rw [qLine_eq ht hin]; exact pLine_lim ht told w
    have hxi : PIn (qLine t told w).2.1 := by rw [qLine_eq ht hin]; exact pLine_in hin told w
    (refine zGo ?_)
    (refine pl_op rfl (op_of (v_index (p := eLine ⟨num, w⟩) hT rfl rfl rfl rfl (by omega) (hp) rfl) ?_); (refine zNp ?_))
    (refine zGo ?_)
    (refine pl_op rfl (op_callA [1, 2, 3, 4, 5] rfl rfl e82 (by decide) rfl rfl rfl zLe zLes (c82 t ht.ok told c w hwk hsome) (fun r s hq => ?_)); obtain ⟨c', rfl, rfl⟩ := hq; refine ⟨rfl, rfl, ?_⟩; (refine zNp ?_))
    generalize qLine t told w = x at hw hxl hxi ⊢
    (refine zGo ?_)
    (refine pw_mv 2 7 hD rfl rfl rfl rfl rfl ?_; refine pw_norm rfl ?_)
    (refine pw_mv 3 8 hD rfl rfl rfl rfl rfl ?_; refine pw_norm rfl ?_)
    (refine pw_mv 4 9 hD rfl rfl rfl rfl rfl ?_; refine pw_norm rfl ?_)
    (refine pw_mv 5 10 hD rfl rfl rfl rfl rfl ?_; refine pw_norm rfl ?_)
    (refine pw_trim 6 hD rfl rfl ?_; refine pw_norm rfl ?_)
    refine pw_cond rfl (fun h2 => ?_) (fun h2 => ?_)
    · simp only [h2] at hw
      rw [← hw]
      (refine zGo ?_)
      refine pw_draw [(0, true), (1, true), (2, true), (3, true), (4, true), (5, true), (6, true), (7, false), (8, true), (9, true)] hmix (by decide +kernel) ?_
      (refine zDgo ?_)
      (refine po_val rfl rfl (v_index (p := eLine ⟨num, w⟩) hT rfl rfl rfl rfl (by omega) hp rfl) ?_; refine zDn ?_)
      (refine zDgo ?_)
      (refine zGo ?_)
      refine ret0 _ (.tup [eTopo topo0, .int .i64 num, .int .i64 x.1]) rfl ?_ (by (refine .inr (.inr (.inr (.inr (.inr ⟨_, _, rfl, rfl, ?_⟩)))); (repeat (first | trivial | refine ⟨.inr (.inl rfl), ?_⟩ | refine ⟨.inr (.inr (.inl ⟨rfl, rfl⟩)), ?_⟩ | refine ⟨.inr (.inr (.inr (.inl ⟨_, _, _, _, _, _, rfl, rfl, rfl, rfl, rfl⟩))), ?_⟩ | refine ⟨.inr (.inr (.inr (.inr (.inl ⟨_, _, rfl, rfl, ?_⟩)))), ?_⟩)))) rfl
      rw [pEnd, if_pos h2]
    · simp only [h2] at hw
      (refine zGo ?_)
      exact ⟨(i + 1, x.2.1, x.2.2, c'), ⟨hw, by show i + 1 ≤ _; omega, hxl, hxi⟩, by show _ - (i + 1) < _ - i; omega, by (exact zLe), by (exact zLes)⟩
  · simp only [decide_eq_false_iff_not, List.length_map] at h1
    have hie : i = ls.length := by omega
    subst hie
    rw [List.drop_length, pRun] at hw
    rw [← hw]
    (refine zGo ?_)
    refine pw_cond rfl (fun h2 => ?_) (fun h2 => ?_)
    · have h3 : t.devs.length = 0 := by simpa using h2
      rw [pEnd, if_neg (show ¬ ((0 : Int) != 0) = true by decide), if_pos h3]
      (refine zGo ?_)
      exact ret0 _ (.tup [eTopo topo0, .int .i64 0, .int .i64 19]) rfl rfl (by (refine .inr (.inr (.inr (.inr (.inr ⟨_, _, rfl, rfl, ?_⟩)))); (repeat (first | trivial | refine ⟨.inr (.inl rfl), ?_⟩ | refine ⟨.inr (.inr (.inl ⟨rfl, rfl⟩)), ?_⟩ | refine ⟨.inr (.inr (.inr (.inl ⟨_, _, _, _, _, _, rfl, rfl, rfl, rfl, rfl⟩))), ?_⟩ | refine ⟨.inr (.inr (.inr (.inr (.inl ⟨_, _, rfl, rfl, ?_⟩)))), ?_⟩)))) rfl
    · have h3 : ¬ t.devs.length = 0 := by simpa using h2
      rw [pEnd, if_neg (show ¬ ((0 : Int) != 0) = true by decide), if_neg h3]
      (refine zGo ?_)
      exact ret0 _ (.tup [eTopo t, .int .i64 0, .int .i64 0]) rfl rfl (by (refine .inr (.inr (.inr (.inr (.inr ⟨_, _, rfl, rfl, ?_⟩)))); (repeat (first | trivial | refine ⟨.inr (.inl rfl), ?_⟩ | refine ⟨.inr (.inr (.inl ⟨rfl, rfl⟩)), ?_⟩ | refine ⟨.inr (.inr (.inr (.inl ⟨_, _, _, _, _, _, rfl, rfl, rfl, rfl, rfl⟩))), ?_⟩ | refine ⟨.inr (.inr (.inr (.inr (.inl ⟨_, _, rfl, rfl, ?_⟩)))), ?_⟩)))) rfl
/-! ### Same -/
theorem eq_dev (d : TDev) : eqP tys 10 72 (eDev d) (eDev d) = some true := by
  have : eqP tys 10 72 (eDev d) (eDev d) = some ((d.name == d.name) && ((d.cap == d.cap) && ((d.rng == d.rng) && ((d.vol == d.vol) && ((d.cls == d.cls) && true))))) := rfl
  rw [this]; simp
theorem eq_link (d : TLink) : eqP tys 10 75 (eLink d) (eLink d) = some true := by
  have : eqP tys 10 75 (eLink d) (eLink d) = some ((d.a == d.a) && ((d.b == d.b) && ((d.cost == d.cost) && true))) := rfl
  rw [this]; simp
theorem eq_pfx (d : TPfx) : eqP tys 10 47 (ePfx d) (ePfx d) = some true := by
  have : eqP tys 10 47 (ePfx d) (ePfx d) = some ((d.addr == d.addr) && ((d.bits == d.bits) && true)) := rfl
  rw [this]; simp
theorem eq_edge (d : TEdge) : eqP tys 10 49 (eEdge d) (eEdge d) = some true := by
  have : eqP tys 10 49 (eEdge d) (eEdge d) = some ((d.name == d.name) && ((d.dev == d.dev) && ((d.zone == d.zone) && (((d.pfx.addr == d.pfx.addr) && ((d.pfx.bits == d.pfx.bits) && true)) && ((d.planned == d.planned) && true))))) := rfl
  rw [this]; simp
theorem c28 (t : Topo) (ht : TOk t) : PFun Tryz.prog Gl 28 [eTopo t, eTopo t] fun r => r = .bool true := by
  refine PFun.of hT Tryz.func28 rfl fun B hD => ?_
  refine pw_norm rfl ?_
  have h1 := ht.devs
  have h2 := ht.links
  have h3 := ht.edges
  have h4 := ht.pools
  unfold Small at h1 h2 h3 h4
  (refine zGo ?_)
  have n1 : (((t.devs.map eDev).length : Int) != ((t.devs.map eDev).length : Int)) = false := by simp
  have n2 : (((t.links.map eLink).length : Int) != ((t.links.map eLink).length : Int)) = false := by simp
  have n3 : (((t.edges.map eEdge).length : Int) != ((t.edges.map eEdge).length : Int)) = false := by simp
  have n4 : (((t.pools.map ePfx).length : Int) != ((t.pools.map ePfx).length : Int)) = false := by simp
  have n5 : (t.tol != t.tol) = false := by simp
  rw [n1]
  (refine zGo ?_)
  rw [n2]
  (refine zGo ?_)
  rw [n3]
  (refine zGo ?_)
  rw [n4]
  (refine zGo ?_)
  rw [n5]
  (refine zGo ?_)
  refine pw_for hD (fun i : Nat => [(5, .int .i64 i)]) (fun _ => [.box (eTopo t).cells, .box (eTopo t).cells]) (fun i => i ≤ t.devs.length) (fun i => t.devs.length - i) 0 (Nat.zero_le _) 2 rfl (fun _ => rfl) (by (exact zLes)) (fun _ => rfl) (fun _ => rfl) (by (exact zLe)) ?_
  intro i hi
  (refine zGo ?_)
  refine pw_cond rfl (fun h => ?_) (fun h => ?_)
  · simp only [decide_eq_true_eq, List.length_map] at h
    have hlt : i < t.devs.length := by omega
    have hp : (t.devs.map eDev)[i]? = some (eDev t.devs[i]) := by simp [hlt]
    generalize t.devs[i] = x at hp
    (refine zGo ?_)
    refine pw_draw [(0, true), (1, true), (2, true), (3, true), (4, true), (5, true), (6, true), (7, true), (8, true), (9, true), (10, true)] hmix (by decide +kernel) ?_
    (refine zDgo ?_)
    (refine po_val rfl rfl (v_index (p := eDev x) hT rfl rfl rfl rfl (by omega) hp rfl) ?_; refine zDn ?_)
    (refine zDgo ?_)
    (refine po_val rfl rfl (v_index (p := eDev x) hT rfl rfl rfl rfl (by omega) hp rfl) ?_; refine zDn ?_)
    (refine zDgo ?_)
    (refine po_val rfl rfl (v_neS (r := true) hT rfl rfl rfl (by kernel_rfl) (eq_dev x)) ?_; refine zDn ?_)
    (refine zDgo ?_)
    (refine zGo ?_)
    exact ⟨i + 1, hlt, by omega, by (exact zLe), by (exact zLes)⟩
  (refine zGo ?_)
  refine pw_for hD (fun i : Nat => [(6, .int .i64 i)]) (fun _ => [.box (eTopo t).cells, .box (eTopo t).cells]) (fun i => i ≤ t.links.length) (fun i => t.links.length - i) 0 (Nat.zero_le _) 2 rfl (fun _ => rfl) (by (exact zLes)) (fun _ => rfl) (fun _ => rfl) (by (exact zLe)) ?_
  intro i hi
  (refine zGo ?_)
  refine pw_cond rfl (fun h => ?_) (fun h => ?_)
  · simp only [decide_eq_true_eq, List.length_map] at h
    have hlt : i < t.links.length := by omega
    have hp : (t.links.map eLink)[i]? = some (eLink t.links[i]) := by simp [hlt]
    generalize t.links[i] = x at hp
    (refine zGo ?_)
    refine pw_draw [(0, true), (1, true), (2, true), (3, true), (4, true), (5, true), (6, true), (7, true), (8, true), (9, true), (10, true)] hmix (by decide +kernel) ?_
    (refine zDgo ?_)
    (refine po_val rfl rfl (v_index (p := eLink x) hT rfl rfl rfl rfl (by omega) hp rfl) ?_; refine zDn ?_)
    (refine zDgo ?_)
    (refine po_val rfl rfl (v_index (p := eLink x) hT rfl rfl rfl rfl (by omega) hp rfl) ?_; refine zDn ?_)
    (refine zDgo ?_)
    (refine po_val rfl rfl (v_neS (r := true) hT rfl rfl rfl (by kernel_rfl) (eq_link x)) ?_; refine zDn ?_)
    (refine zDgo ?_)
    (refine zGo ?_)
    exact ⟨i + 1, hlt, by omega, by (exact zLe), by (exact zLes)⟩
  (refine zGo ?_)
  refine pw_for hD (fun i : Nat => [(7, .int .i64 i)]) (fun _ => [.box (eTopo t).cells, .box (eTopo t).cells]) (fun i => i ≤ t.edges.length) (fun i => t.edges.length - i) 0 (Nat.zero_le _) 2 rfl (fun _ => rfl) (by (exact zLes)) (fun _ => rfl) (fun _ => rfl) (by (exact zLe)) ?_
  intro i hi
  (refine zGo ?_)
  refine pw_cond rfl (fun h => ?_) (fun h => ?_)
  · simp only [decide_eq_true_eq, List.length_map] at h
    have hlt : i < t.edges.length := by omega
    have hp : (t.edges.map eEdge)[i]? = some (eEdge t.edges[i]) := by simp [hlt]
    generalize t.edges[i] = x at hp
    (refine zGo ?_)
    refine pw_draw [(0, true), (1, true), (2, true), (3, true), (4, true), (5, true), (6, true), (7, true), (8, true), (9, true), (10, true)] hmix (by decide +kernel) ?_
    (refine zDgo ?_)
    (refine po_val rfl rfl (v_index (p := eEdge x) hT rfl rfl rfl rfl (by omega) hp rfl) ?_; refine zDn ?_)
    (refine zDgo ?_)
    (refine po_val rfl rfl (v_index (p := eEdge x) hT rfl rfl rfl rfl (by omega) hp rfl) ?_; refine zDn ?_)
    (refine zDgo ?_)
    (refine po_val rfl rfl (v_neS (r := true) hT rfl rfl rfl (by kernel_rfl) (eq_edge x)) ?_; refine zDn ?_)
    (refine zDgo ?_)
    (refine zGo ?_)
    exact ⟨i + 1, hlt, by omega, by (exact zLe), by (exact zLes)⟩
  (refine zGo ?_)
  refine pw_for hD (fun i : Nat => [(8, .int .i64 i)]) (fun _ => [.box (eTopo t).cells, .box (eTopo t).cells]) (fun i => i ≤ t.pools.length) (fun i => t.pools.length - i) 0 (Nat.zero_le _) 2 rfl (fun _ => rfl) (by (exact zLes)) (fun _ => rfl) (fun _ => rfl) (by (exact zLe)) ?_
  intro i hi
  (refine zGo ?_)
  refine pw_cond rfl (fun h => ?_) (fun h => ?_)
  · simp only [decide_eq_true_eq, List.length_map] at h
    have hlt : i < t.pools.length := by omega
    have hp : (t.pools.map ePfx)[i]? = some (ePfx t.pools[i]) := by simp [hlt]
    generalize t.pools[i] = x at hp
    (refine zGo ?_)
    refine pw_draw [(0, true), (1, true), (2, true), (3, true), (4, true), (5, true), (6, true), (7, true), (8, true), (9, true), (10, true)] hmix (by decide +kernel) ?_
    (refine zDgo ?_)
    (refine po_val rfl rfl (v_index (p := ePfx x) hT rfl rfl rfl rfl (by omega) hp rfl) ?_; refine zDn ?_)
    (refine zDgo ?_)
    (refine po_val rfl rfl (v_index (p := ePfx x) hT rfl rfl rfl rfl (by omega) hp rfl) ?_; refine zDn ?_)
    (refine zDgo ?_)
    (refine po_val rfl rfl (v_neS (r := true) hT rfl rfl rfl (by kernel_rfl) (eq_pfx x)) ?_; refine zDn ?_)
    (refine zDgo ?_)
    (refine zGo ?_)
    exact ⟨i + 1, hlt, by omega, by (exact zLe), by (exact zLes)⟩
  (refine zGo ?_)
  exact ret1 _ rfl rfl rfl
/-! ### parses -/
theorem topo0_lim : TLim topo0 := ⟨by decide, by decide, by decide, by decide⟩
theorem pRun_lim : ∀ (ls : List TLine) {t : Topo} (told : Bool), TLim t → TLim (pRun ls t told).2.2
  | [], _, _, h => h
  | l :: ls, t, told, h => by
    rw [pRun]
    split
    · exact topo0_lim
    · exact pRun_lim ls _ (pLine_lim h told l.words)
theorem pRun_in : ∀ (ls : List TLine) {t : Topo} (told : Bool), PIn t → PIn (pRun ls t told).2.2
  | [], _, _, h => h
  | l :: ls, t, told, h => by
    rw [pRun]
    split
    · exact topo0_in
    · exact pRun_in ls _ (pLine_in h told l.words)
theorem tParse_lim (s : Str) : TLim (tParse s).1 := by
  unfold tParse
  split
  · exact topo0_lim
  · unfold pEnd
    split
    · exact topo0_lim
    · split
      · exact topo0_lim
      · exact pRun_lim _ _ topo0_lim
theorem tParse_in (s : Str) : PIn (tParse s).1 := by
  unfold tParse
  split
  · exact topo0_in
  · unfold pEnd
    split
    · exact topo0_in
    · split
      · exact topo0_in
      · exact pRun_in _ _ topo0_in
theorem c15 (hG : GM Gl) (s : Str) : PFun Tryz.prog Gl 15 [.str s] fun r => r = .bool true := by
  refine PFun.of hT Tryz.func15 rfl fun B hD => ?_
  refine pw_norm rfl ?_
  have hl := tParse_lim s
  (refine zGo ?_)
  (refine pl_op rfl (op_fun (c26 hG s (lines_ok s)) rfl rfl e26 zLe rfl (fun r hr => ?_)); subst hr; refine ⟨rfl, ?_⟩; (refine zNp ?_))
  (refine zGo ?_)
  (refine pl_op rfl (op_fun (c38 s) rfl rfl e38 zLe rfl (fun r hr => ?_)); subst hr; refine ⟨rfl, ?_⟩; (refine zNp ?_))
  generalize tParse s = X at hl
  (refine zGo ?_)
  (refine pl_op rfl (op_fun (c28 X.1 hl.ok) rfl rfl e28 zLe rfl (fun r hr => ?_)); subst hr; refine ⟨rfl, ?_⟩; (refine zNp ?_))
  (refine zGo ?_)
  have n1 : (X.2.1 == X.2.1) = true := by simp
  have n2 : (X.2.2 == X.2.2) = true := by simp
  rw [n1]
  (refine zGo ?_)
  rw [n2]
  (refine zGo ?_)
  exact ret1 _ rfl rfl rfl
end Go.Proofs.YtdehdgbdcfkpbaaGreatDoor
