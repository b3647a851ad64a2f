/-
  Contracts of functions, walked over pure values.
-/
import Derived.Test.YtdehdgbdcfkpbaaGreatDoorKE6
import Derived.Test.YtdehdgbdcfkpbaaGreatDoorKA7
import Derived.Test.YtdehdgbdcfkpbaaGreatDoorKV1
namespace Go.Proofs.YtdehdgbdcfkpbaaGreatDoor
open Go Go.Pw
variable {Gl : Glob}
attribute [local irreducible] PW PWL OpP PCalls PWO
set_option maxHeartbeats 20000000
set_option maxRecDepth 100000

/-! ### the reference's Valid -/
theorem c48 (l : List TDev) : PFun Tryz.prog Gl 48 [.sl (l.map eDev)] fun r => r = .bool (rvDevs l) := by
  refine PFun.of hT Tryz.func48 rfl fun B hD => ?_
  refine pw_norm rfl ?_
  (refine zGo ?_)
  (refine pl_or 4 7 11 (decide (((l.map eDev).length : Int) > 12)) rfl rfl rfl (fun hb => ?_) (fun hb => ?_) ?_; (focus ((refine zNp ?_); (refine zGo ?_); exact ⟨by (exact zLe), StLe.refl _⟩)); (focus ((refine zNp ?_); (refine zGo ?_); exact ⟨by (exact zLe), StLe.refl _⟩)); (refine zNp ?_); (refine zGo ?_))
  refine pw_cond rfl (fun h => ?_) (fun h => ?_)
  · rw [List.length_map] at h
    (refine zGo ?_)
    refine ret1 _ rfl ?_ rfl
    unfold rvDevs
    rw [h]; rfl
  rw [List.length_map] at h
  have hh := h
  simp only [Bool.or_eq_false_iff, decide_eq_false_iff_not] at hh
  have hs : Small l := by unfold Small; omega
  have hr : rvDevs l = allI (rvDev l) l := by unfold rvDevs; rw [h]; rfl
  rw [hr]
  clear h hr
  (refine zGo ?_)
  refine pw_for hD (fun i : Nat => [(3, .int .i64 i)]) (fun _ => []) (fun i => i ≤ l.length ∧ ∀ (j : Nat) d, j < i → l[j]? = some d → rvDev l j d = true) (fun i => l.length - i) 0 ⟨by omega, by intro j d h; omega⟩ 0 rfl (fun _ => rfl) (StLe.refl _) (fun _ => rfl) (fun _ => rfl) (by (exact zLe)) ?_
  rintro i ⟨hi, hno⟩
  (refine zGo ?_)
  refine pw_cond rfl (fun h1 => ?_) (fun h1 => ?_)
  · simp only [decide_eq_true_eq, List.length_map] at h1
    have hlt : i < l.length := by omega
    have hp : (l.map eDev)[i]? = some (eDev l[i]) := by simp [hlt]
    have hg : l[i]? = some l[i] := List.getElem?_eq_getElem hlt
    generalize hd : l[i] = d at hp hg
    (refine zGo ?_)
    (refine pl_op rfl (op_of (v_index (p := eDev d) hT rfl rfl rfl rfl (by omega) (hp) rfl) ?_); (refine zNp ?_))
    (refine zGo ?_)
    (refine pl_op rfl (op_fun (c92 d.name) rfl rfl e92 zLe rfl (fun r hr => ?_)); subst hr; refine ⟨rfl, ?_⟩; (refine zNp ?_))
    (refine zGo ?_)
    (refine pl_or 11 25 36 (tDevice ⟨l, [], [], [], 0⟩ d.name != (i : Int)) rfl rfl rfl (fun hb => ?_) (fun hb => ?_) ?_; (focus ((refine zNp ?_); (refine zGo ?_); exact ⟨by (exact zLe), StLe.refl _⟩)); (focus ((refine zNp ?_); (refine zGo ?_); (refine zGo ?_); (refine pl_on rfl rfl (op_of (v_index (p := eDev d) hT rfl rfl rfl rfl (by omega) (hp) rfl) ?_); (refine zNp ?_)); (refine zGo ?_); (refine pl_on rfl rfl (op_lend0 (c66 ⟨l, [], [], [], 0⟩ d.name hs) rfl rfl e66 (by (repeat (first | trivial | refine ⟨.inr (.inl rfl), ?_⟩ | refine ⟨.inr (.inr (.inl ⟨rfl, rfl⟩)), ?_⟩ | refine ⟨.inr (.inr (.inr (.inr (.inl ⟨_, _, rfl, rfl, ?_⟩)))), ?_⟩))) rfl (fun r hr => ?_)); subst hr; refine ⟨rfl, ?_⟩; (refine zNp ?_)); (refine zGo ?_); exact ⟨by (exact zLe), StLe.refl _⟩)); (refine zNp ?_); (refine zGo ?_))
    (refine pl_or 7 37 44 (decide (d.cap < 0)) rfl rfl rfl (fun hb => ?_) (fun hb => ?_) ?_; (focus ((refine zNp ?_); (refine zGo ?_); exact ⟨by (exact zLe), StLe.refl _⟩)); (focus ((refine zNp ?_); (refine zGo ?_); (refine pl_on rfl rfl (op_of (v_index (p := eDev d) hT rfl rfl rfl rfl (by omega) (hp) rfl) ?_); (refine zNp ?_)); (refine zGo ?_); exact ⟨by (exact zLe), StLe.refl _⟩)); (refine zNp ?_); (refine zGo ?_))
    (refine pl_or 7 45 52 (decide (d.cap > 4096)) rfl rfl rfl (fun hb => ?_) (fun hb => ?_) ?_; (focus ((refine zNp ?_); (refine zGo ?_); exact ⟨by (exact zLe), StLe.refl _⟩)); (focus ((refine zNp ?_); (refine zGo ?_); (refine pl_on rfl rfl (op_of (v_index (p := eDev d) hT rfl rfl rfl rfl (by omega) (hp) rfl) ?_); (refine zNp ?_)); (refine zGo ?_); exact ⟨by (exact zLe), StLe.refl _⟩)); (refine zNp ?_); (refine zGo ?_))
    refine pl_or 16 53 69 (!(d.cls == []) && !vname d.cls) rfl rfl rfl (fun _ => ?_) (fun _ => ?_) ?_
    · refine pl_norm rfl ?_
      (refine zGo ?_)
      exact ⟨by (exact zLe), StLe.refl _⟩
    · refine pl_norm rfl ?_
      (refine zGo ?_)
      (refine pl_on rfl rfl (op_of (v_index (p := eDev d) hT rfl rfl rfl rfl (by omega) (hp) rfl) ?_); (refine zNp ?_))
      (refine zGo ?_)
      refine pl_and 8 60 68 (!vname d.cls) rfl rfl rfl (fun _ => ?_) (fun _ => ?_) ?_
      · refine pl_norm rfl ?_
        (refine zGo ?_)
        (refine pl_on rfl rfl (op_of (v_index (p := eDev d) hT rfl rfl rfl rfl (by omega) (hp) rfl) ?_); (refine zNp ?_))
        (refine zGo ?_)
        (refine pl_on rfl rfl (op_fun (c92 d.cls) rfl rfl e92 zLe rfl (fun r hr => ?_)); subst hr; refine ⟨rfl, ?_⟩; (refine zNp ?_))
        (refine zGo ?_)
        exact ⟨by (exact zLe), StLe.refl _⟩
      · refine pl_norm rfl ?_
        (refine zGo ?_)
        exact ⟨by (exact zLe), StLe.refl _⟩
      refine pl_norm rfl ?_
      (refine zGo ?_)
      exact ⟨by (exact zLe), StLe.refl _⟩
    refine pl_norm rfl ?_
    (refine zGo ?_)
    refine pw_cond rfl (fun h2 => ?_) (fun h2 => ?_)
    · (refine zGo ?_)
      refine ret1 _ rfl ?_ rfl
      rw [allI_false hlt (by rw [hd, rvDev, h2]; rfl)]
    · (refine zGo ?_)
      refine ⟨i + 1, ⟨hlt, fun j x hj hx => ?_⟩, by omega, by (exact zLe), StLe.refl _⟩
      rcases Nat.lt_succ_iff_lt_or_eq.1 hj with hj | rfl
      · exact hno j x hj hx
      · rw [hg] at hx; cases hx
        rw [rvDev, h2]; rfl
  simp only [decide_eq_false_iff_not, List.length_map] at h1
  have a1 : allI (rvDev l) l = true := allI_true fun j d hd => hno j d (by have := (List.getElem?_eq_some_iff.1 hd).1; omega) hd
  rw [a1]
  (refine zGo ?_)
  exact ret1 _ rfl rfl rfl
theorem c49 (e : TEdge) (n : Int) : PFun Tryz.prog Gl 49 [eEdge e, .int .i64 n] fun r => r = .bool (rvEdge e n) := by
  refine PFun.of hT Tryz.func49 rfl fun B hD => ?_
  refine pw_norm rfl ?_
  (refine zGo ?_)
  (refine pl_op rfl (op_fun (c92 e.name) rfl rfl e92 zLe rfl (fun r hr => ?_)); subst hr; refine ⟨rfl, ?_⟩; (refine zNp ?_))
  (refine zGo ?_)
  (refine pl_or 5 9 14 (!vname e.zone) rfl rfl rfl (fun hb => ?_) (fun hb => ?_) ?_; (focus ((refine zNp ?_); (refine zGo ?_); exact ⟨by (exact zLe), StLe.refl _⟩)); (focus ((refine zNp ?_); (refine zGo ?_); (refine pl_on rfl rfl (op_fun (c92 e.zone) rfl rfl e92 zLe rfl (fun r hr => ?_)); subst hr; refine ⟨rfl, ?_⟩; (refine zNp ?_)); (refine zGo ?_); exact ⟨by (exact zLe), StLe.refl _⟩)); (refine zNp ?_); (refine zGo ?_))
  (refine pl_or 4 15 19 (decide (e.dev < 0)) rfl rfl rfl (fun hb => ?_) (fun hb => ?_) ?_; (focus ((refine zNp ?_); (refine zGo ?_); exact ⟨by (exact zLe), StLe.refl _⟩)); (focus ((refine zNp ?_); (refine zGo ?_); exact ⟨by (exact zLe), StLe.refl _⟩)); (refine zNp ?_); (refine zGo ?_))
  (refine pl_or 5 20 25 (decide (e.dev ≥ n)) rfl rfl rfl (fun hb => ?_) (fun hb => ?_) ?_; (focus ((refine zNp ?_); (refine zGo ?_); exact ⟨by (exact zLe), StLe.refl _⟩)); (focus ((refine zNp ?_); (refine zGo ?_); exact ⟨by (exact zLe), StLe.refl _⟩)); (refine zNp ?_); (refine zGo ?_))
  (refine pl_or 5 26 31 (decide (e.pfx.bits < 1)) rfl rfl rfl (fun hb => ?_) (fun hb => ?_) ?_; (focus ((refine zNp ?_); (refine zGo ?_); exact ⟨by (exact zLe), StLe.refl _⟩)); (focus ((refine zNp ?_); (refine zGo ?_); exact ⟨by (exact zLe), StLe.refl _⟩)); (refine zNp ?_); (refine zGo ?_))
  refine pw_cond rfl (fun h => ?_) (fun h => ?_)
  · (refine zGo ?_)
    refine ret1 _ rfl ?_ rfl
    unfold rvEdge
    rw [h]; rfl
  have hr : rvEdge e n = (rvalid e.pfx && (!e.planned || (e.pfx.addr == 0))) := by unfold rvEdge; rw [h]; rfl
  rw [hr]
  clear h hr
  (refine zGo ?_)
  (refine pl_op rfl (op_fun (c53 e.pfx) rfl rfl e53 zLe rfl (fun r hr => ?_)); subst hr; refine ⟨rfl, ?_⟩; (refine zNp ?_))
  (refine zGo ?_)
  refine pl_and 10 35 45 (!e.planned || (e.pfx.addr == 0)) rfl rfl rfl (fun _ => ?_) (fun _ => ?_) ?_
  · refine pl_norm rfl ?_
    (refine zGo ?_)
    (refine pl_or 5 39 44 (e.pfx.addr == 0) rfl rfl rfl (fun hb => ?_) (fun hb => ?_) ?_; (focus ((refine zNp ?_); (refine zGo ?_); exact ⟨by (exact zLe), StLe.refl _⟩)); (focus ((refine zNp ?_); (refine zGo ?_); exact ⟨by (exact zLe), StLe.refl _⟩)); (refine zNp ?_); (refine zGo ?_))
    exact ⟨by (exact zLe), StLe.refl _⟩
  · refine pl_norm rfl ?_
    (refine zGo ?_)
    exact ⟨by (exact zLe), StLe.refl _⟩
  refine pl_norm rfl ?_
  (refine zGo ?_)
  exact ret1 _ rfl rfl rfl
end Go.Proofs.YtdehdgbdcfkpbaaGreatDoor
namespace Go.Proofs.YtdehdgbdcfkpbaaGreatDoor
open Go Go.Pw
variable {Gl : Glob}
attribute [local irreducible] PW PWL OpP PCalls PWO
set_option maxHeartbeats 20000000
set_option maxRecDepth 100000

theorem c21 (t : Topo) : PFun Tryz.prog Gl 21 [eTopo t] fun r => r = .bool (rValid t) := by
  refine PFun.of hT Tryz.func21 rfl fun B hD => ?_
  refine pw_norm rfl ?_
  (refine zGo ?_)
  (refine pl_op rfl (op_fun (c48 t.devs) rfl rfl e48 zLe rfl (fun r hr => ?_)); subst hr; refine ⟨rfl, ?_⟩; (refine zNp ?_))
  (refine zGo ?_)
  (refine pl_or 5 13 18 (decide (((t.links.map eLink).length : Int) > 24)) rfl rfl rfl (fun hb => ?_) (fun hb => ?_) ?_; (focus ((refine zNp ?_); (refine zGo ?_); exact ⟨by (exact zLe), StLe.refl _⟩)); (focus ((refine zNp ?_); (refine zGo ?_); exact ⟨by (exact zLe), StLe.refl _⟩)); (refine zNp ?_); (refine zGo ?_))
  (refine pl_or 5 19 24 (decide (((t.edges.map eEdge).length : Int) > 12)) rfl rfl rfl (fun hb => ?_) (fun hb => ?_) ?_; (focus ((refine zNp ?_); (refine zGo ?_); exact ⟨by (exact zLe), StLe.refl _⟩)); (focus ((refine zNp ?_); (refine zGo ?_); exact ⟨by (exact zLe), StLe.refl _⟩)); (refine zNp ?_); (refine zGo ?_))
  (refine pl_or 5 25 30 (decide (((t.pools.map ePfx).length : Int) > 8)) rfl rfl rfl (fun hb => ?_) (fun hb => ?_) ?_; (focus ((refine zNp ?_); (refine zGo ?_); exact ⟨by (exact zLe), StLe.refl _⟩)); (focus ((refine zNp ?_); (refine zGo ?_); exact ⟨by (exact zLe), StLe.refl _⟩)); (refine zNp ?_); (refine zGo ?_))
  (refine pl_or 4 31 35 (decide (t.tol < 0)) rfl rfl rfl (fun hb => ?_) (fun hb => ?_) ?_; (focus ((refine zNp ?_); (refine zGo ?_); exact ⟨by (exact zLe), StLe.refl _⟩)); (focus ((refine zNp ?_); (refine zGo ?_); exact ⟨by (exact zLe), StLe.refl _⟩)); (refine zNp ?_); (refine zGo ?_))
  (refine pl_or 4 36 40 (decide (t.tol > 2)) rfl rfl rfl (fun hb => ?_) (fun hb => ?_) ?_; (focus ((refine zNp ?_); (refine zGo ?_); exact ⟨by (exact zLe), StLe.refl _⟩)); (focus ((refine zNp ?_); (refine zGo ?_); exact ⟨by (exact zLe), StLe.refl _⟩)); (refine zNp ?_); (refine zGo ?_))
  refine pw_cond rfl (fun h => ?_) (fun h => ?_)
  · have h' : rvHead t = true := by simp only [List.length_map] at h; exact h
    (refine zGo ?_)
    refine ret1 _ rfl ?_ rfl
    rw [rValid, h']; rfl
  have h' : rvHead t = false := by simp only [List.length_map] at h; exact h
  clear h
  have hh := h'
  simp only [rvHead, rvDevs, Bool.or_eq_false_iff, Bool.not_eq_false', Bool.and_eq_true, Bool.not_eq_true', decide_eq_false_iff_not] at hh
  have hv : rValid t = (t.links.all (rvLink t) && (allI (rvEdgeI t) t.edges && (allI (rvMeet (fixed t.edges)) (fixed t.edges) && allI (rvPool t.pools) t.pools))) := by rw [rValid, h']; rfl
  rw [hv]
  clear hv h'
  have sd : Small t.devs := by unfold Small; omega
  have se : Small t.edges := by unfold Small; omega
  have sl : t.links.length ≤ 24 := by omega
  have sp : t.pools.length ≤ 8 := by omega
  clear hh
  have se' := se
  unfold Small at se'
  (refine zGo ?_)
  refine pw_for hD (fun i : Nat => [(3, .int .i64 i)]) (fun _ => [.box (eTopo t).cells]) (fun i => i ≤ t.links.length ∧ ∀ (j : Nat) d, j < i → t.links[j]? = some d → rvLink t d = true) (fun i => t.links.length - i) 0 ⟨by omega, by intro j d h; omega⟩ 1 rfl (fun _ => rfl) (by (exact zLes)) (fun _ => rfl) (fun _ => rfl) (by (exact zLe)) ?_
  rintro i ⟨hi, hno⟩
  (refine zGo ?_)
  refine pw_cond rfl (fun h1 => ?_) (fun h1 => ?_)
  · simp only [decide_eq_true_eq, List.length_map] at h1
    have hlt : i < t.links.length := by omega
    have hp : (t.links.map eLink)[i]? = some (eLink t.links[i]) := by simp [hlt]
    have hg : t.links[i]? = some t.links[i] := List.getElem?_eq_getElem hlt
    have hm : t.links[i] ∈ t.links := List.getElem_mem hlt
    generalize t.links[i] = x at hp hg hm
    (refine zGo ?_)
    (refine pl_op rfl (op_of (v_index (p := eLink x) hT rfl rfl rfl rfl (by omega) (hp) rfl) ?_); (refine zNp ?_))
    (refine zGo ?_)
    (refine pl_or 6 56 62 (decide (x.b ≤ x.a)) rfl rfl rfl (fun hb => ?_) (fun hb => ?_) ?_; (focus ((refine zNp ?_); (refine zGo ?_); exact ⟨by (exact zLe), StLe.refl _⟩)); (focus ((refine zNp ?_); (refine zGo ?_); exact ⟨by (exact zLe), StLe.refl _⟩)); (refine zNp ?_); (refine zGo ?_))
    (refine pl_or 7 63 70 (decide (x.b ≥ (t.devs.map eDev).length)) rfl rfl rfl (fun hb => ?_) (fun hb => ?_) ?_; (focus ((refine zNp ?_); (refine zGo ?_); exact ⟨by (exact zLe), StLe.refl _⟩)); (focus ((refine zNp ?_); (refine zGo ?_); exact ⟨by (exact zLe), StLe.refl _⟩)); (refine zNp ?_); (refine zGo ?_))
    (refine pl_or 4 71 75 (decide (x.cost < 1)) rfl rfl rfl (fun hb => ?_) (fun hb => ?_) ?_; (focus ((refine zNp ?_); (refine zGo ?_); exact ⟨by (exact zLe), StLe.refl _⟩)); (focus ((refine zNp ?_); (refine zGo ?_); exact ⟨by (exact zLe), StLe.refl _⟩)); (refine zNp ?_); (refine zGo ?_))
    (refine pl_or 4 76 80 (decide (x.cost > 1000)) rfl rfl rfl (fun hb => ?_) (fun hb => ?_) ?_; (focus ((refine zNp ?_); (refine zGo ?_); exact ⟨by (exact zLe), StLe.refl _⟩)); (focus ((refine zNp ?_); (refine zGo ?_); exact ⟨by (exact zLe), StLe.refl _⟩)); (refine zNp ?_); (refine zGo ?_))
    refine pw_cond rfl (fun h2 => ?_) (fun h2 => ?_)
    · rw [List.length_map] at h2
      (refine zGo ?_)
      refine ret1 _ rfl ?_ rfl
      rw [show t.links.all (rvLink t) = false from List.all_eq_false.2 ⟨_, hm, by rw [rvLink, h2]; exact Bool.false_ne_true⟩]; rfl
    · rw [List.length_map] at h2
      (refine zGo ?_)
      refine ⟨i + 1, ⟨hlt, fun j d hj hd => ?_⟩, by omega, by (exact zLe), by (exact zLes)⟩
      rcases Nat.lt_succ_iff_lt_or_eq.1 hj with hj | rfl
      · exact hno j d hj hd
      · rw [hg] at hd; cases hd
        rw [rvLink, h2]; rfl
  simp only [decide_eq_false_iff_not, List.length_map] at h1
  have a2 : t.links.all (rvLink t) = true := List.all_eq_true.2 fun d hd => by
    obtain ⟨j, hj⟩ := List.mem_iff_getElem?.1 hd
    exact hno j d (by have := (List.getElem?_eq_some_iff.1 hj).1; omega) hj
  rw [a2, Bool.true_and]
  clear h1 hno hi
  (refine zGo ?_)
  refine pw_for hD (fun i : Nat => [(5, .int .i64 i)]) (fun _ => [.box (eTopo t).cells]) (fun i => i ≤ t.edges.length ∧ ∀ (j : Nat) d, j < i → t.edges[j]? = some d → rvEdgeI t j d = true) (fun i => t.edges.length - i) 0 ⟨by omega, by intro j d h; omega⟩ 1 rfl (fun _ => rfl) (by (exact zLes)) (fun _ => rfl) (fun _ => rfl) (by (exact zLe)) ?_
  rintro i ⟨hi, hno⟩
  (refine zGo ?_)
  refine pw_cond rfl (fun h1 => ?_) (fun h1 => ?_)
  · simp only [decide_eq_true_eq, List.length_map] at h1
    have hlt : i < t.edges.length := by omega
    have hp : (t.edges.map eEdge)[i]? = some (eEdge t.edges[i]) := by simp [hlt]
    have hg : t.edges[i]? = some t.edges[i] := List.getElem?_eq_getElem hlt
    generalize hx : t.edges[i] = x at hp hg
    have hn : rvEdge x ((t.devs.map eDev).length : Nat) = rvEdge x t.devs.length := by rw [List.length_map]
    (refine zGo ?_)
    refine pw_draw [(0, true), (1, true), (2, true), (3, true), (4, true), (5, true), (6, true), (7, true), (8, false), (9, true), (10, true), (11, true), (12, true), (13, true), (14, true), (15, true), (16, true), (17, true), (19, true), (18, false), (20, true), (21, true)] hmix (by decide +kernel) ?_
    (refine zDgo ?_)
    (refine po_val rfl rfl (v_index (p := eEdge x) hT rfl rfl rfl rfl (by omega) hp rfl) ?_; refine zDn ?_)
    (refine zDgo ?_)
    (refine po_step rfl rfl (op_fun (c49 x ((t.devs.map eDev).length : Nat)) rfl rfl e49 zLe rfl (fun r hr => ?_)); subst hr; refine ⟨rfl, zLok, ?_⟩; refine zDn ?_)
    (refine zDgo ?_)
    refine po_split 98 rfl (fun h2 => ?_) (fun h2 => ?_)
    · (refine zDgo ?_)
      (refine zGo ?_)
      refine ret1 _ rfl ?_ rfl
      rw [hn] at h2
      rw [allI_false hlt (by rw [hx, rvEdgeI, h2]; rfl)]; rfl
    · (refine zDgo ?_)
      (refine po_gval rfl rfl rfl (v_index (p := eEdge x) hT rfl rfl rfl rfl (by omega) hp rfl) ?_; refine zDn ?_)
      (refine zDgo ?_)
      (refine po_on rfl rfl rfl (op_fun (c50 t x.name se) rfl rfl e50 zLe rfl (fun r hr => ?_)); subst hr; refine ⟨rfl, zLok, ?_⟩; refine zDn ?_)
      (refine zDgo ?_)
      (refine zGo ?_)
      rw [hn] at h2
      refine pw_cond rfl (fun h3 => ?_) (fun h3 => ?_)
      · (refine zGo ?_)
        refine ret1 _ rfl ?_ rfl
        rw [allI_false hlt (by rw [hx, rvEdgeI, h2, h3]; rfl)]; rfl
      · (refine zGo ?_)
        refine ⟨i + 1, ⟨hlt, fun j d hj hd => ?_⟩, by omega, by (exact zLe), by (exact zLes)⟩
        rcases Nat.lt_succ_iff_lt_or_eq.1 hj with hj | rfl
        · exact hno j d hj hd
        · rw [hg] at hd; cases hd
          rw [rvEdgeI, h2, h3]; rfl
  simp only [decide_eq_false_iff_not, List.length_map] at h1
  have a3 : allI (rvEdgeI t) t.edges = true := allI_true fun j d hd => hno j d (by have := (List.getElem?_eq_some_iff.1 hd).1; omega) hd
  rw [a3, Bool.true_and]
  clear h1 hno hi
  have sf : Small (fixed t.edges) := by
    unfold Small fixed
    rw [List.length_map]
    have := List.length_filter_le (fun e => !e.planned) t.edges
    omega
  (refine zGo ?_)
  (refine pl_op rfl (op_fun (c51 t se) rfl rfl e51 zLe rfl (fun r hr => ?_)); subst hr; refine ⟨rfl, ?_⟩; (refine zNp ?_))
  (refine zGo ?_)
  generalize hF : fixed t.edges = F at sf
  have sf' := sf
  unfold Small at sf'
  refine pw_for hD (fun i : Nat => [(7, .int .i64 i)]) (fun _ => [.box (eTopo t).cells]) (fun i => i ≤ F.length ∧ ∀ (j : Nat) d, j < i → F[j]? = some d → rvMeet F j d = true) (fun i => F.length - i) 0 ⟨by omega, by intro j d h; omega⟩ 1 rfl (fun _ => rfl) (by (exact zLes)) (fun _ => rfl) (fun _ => rfl) (by (exact zLe)) ?_
  rintro i ⟨hi, hno⟩
  (refine zGo ?_)
  refine pw_cond rfl (fun h1 => ?_) (fun h1 => ?_)
  · simp only [decide_eq_true_eq, List.length_map] at h1
    have hlt : i < F.length := by omega
    have hp : (F.map ePfx)[i]? = some (ePfx F[i]) := by simp [hlt]
    have hg : F[i]? = some F[i] := List.getElem?_eq_getElem hlt
    have hsm : Small (F.take i) := by unfold Small; have := List.length_take_le i F; omega
    generalize hx : F[i] = x at hp hg
    (refine zGo ?_)
    refine pw_draw [(0, true), (1, true), (2, true), (3, true), (4, true), (5, true), (6, true), (7, false)] hmix (by decide +kernel) ?_
    (refine zDgo ?_)
    (refine po_val rfl rfl (v_index (p := ePfx x) hT rfl rfl rfl rfl (by omega) hp rfl) ?_; refine zDn ?_)
    (refine zDgo ?_)
    (refine po_val rfl rfl (v_takeM (m := i) hT rfl rfl rfl rfl (by omega) (fun _ => rfl)) ?_; refine zDn ?_)
    (refine zDgo ?_)
    (refine po_step rfl rfl (op_fun (c52 x (F.take i) hsm) rfl rfl e52 zLe rfl (fun r hr => ?_)); subst hr; refine ⟨rfl, zLok, ?_⟩; refine zDn ?_)
    (refine zDgo ?_)
    (refine zGo ?_)
    refine pw_cond rfl (fun h2 => ?_) (fun h2 => ?_)
    · (refine zGo ?_)
      refine ret1 _ rfl ?_ rfl
      rw [allI_false hlt (by rw [hx, rvMeet, h2]; rfl)]; rfl
    · (refine zGo ?_)
      refine ⟨i + 1, ⟨hlt, fun j d hj hd => ?_⟩, by omega, by (exact zLe), by (exact zLes)⟩
      rcases Nat.lt_succ_iff_lt_or_eq.1 hj with hj | rfl
      · exact hno j d hj hd
      · rw [hg] at hd; cases hd
        rw [rvMeet, h2]; rfl
  simp only [decide_eq_false_iff_not, List.length_map] at h1
  have a4 : allI (rvMeet F) F = true := allI_true fun j d hd => hno j d (by have := (List.getElem?_eq_some_iff.1 hd).1; omega) hd
  rw [a4, Bool.true_and]
  clear h1 hno hi
  (refine zGo ?_)
  refine pw_for hD (fun i : Nat => [(8, .int .i64 i)]) (fun _ => [.box (eTopo t).cells]) (fun i => i ≤ t.pools.length ∧ ∀ (j : Nat) d, j < i → t.pools[j]? = some d → rvPool t.pools j d = true) (fun i => t.pools.length - i) 0 ⟨by omega, by intro j d h; omega⟩ 1 rfl (fun _ => rfl) (by (exact zLes)) (fun _ => rfl) (fun _ => rfl) (by (exact zLe)) ?_
  rintro i ⟨hi, hno⟩
  (refine zGo ?_)
  refine pw_cond rfl (fun h1 => ?_) (fun h1 => ?_)
  · simp only [decide_eq_true_eq, List.length_map] at h1
    have hlt : i < t.pools.length := by omega
    have hp : (t.pools.map ePfx)[i]? = some (ePfx t.pools[i]) := by simp [hlt]
    have hg : t.pools[i]? = some t.pools[i] := List.getElem?_eq_getElem hlt
    have hsm : Small (t.pools.take i) := by unfold Small; have := List.length_take_le i t.pools; omega
    generalize hx : t.pools[i] = x at hp hg
    (refine zGo ?_)
    refine pw_draw [(0, true), (1, true), (2, true), (3, true), (4, true), (5, false), (6, true), (7, true), (8, true), (9, true), (10, true), (11, true), (12, true), (13, true), (14, true), (15, true), (16, true), (17, false), (18, true)] hmix (by decide +kernel) ?_
    (refine zDgo ?_)
    (refine po_val rfl rfl (v_index (p := ePfx x) hT rfl rfl rfl rfl (by omega) hp rfl) ?_; refine zDn ?_)
    (refine zDgo ?_)
    (refine po_step rfl rfl (op_fun (c53 x) rfl rfl e53 zLe rfl (fun r hr => ?_)); subst hr; refine ⟨rfl, zLok, ?_⟩; refine zDn ?_)
    (refine zDgo ?_)
    refine po_split 140 rfl (fun h2 => ?_) (fun h2 => ?_)
    · (refine zDgo ?_)
      (refine zGo ?_)
      refine ret1 _ rfl ?_ rfl
      rw [allI_false hlt (by rw [hx, rvPool, h2]; rfl)]
    · (refine zDgo ?_)
      (refine po_gval rfl rfl rfl (v_index (p := ePfx x) hT rfl rfl rfl rfl (by omega) hp rfl) ?_; refine zDn ?_)
      (refine zDgo ?_)
      (refine po_gval rfl rfl rfl (v_takeM (m := i) hT rfl rfl rfl rfl (by omega) (fun _ => rfl)) ?_; refine zDn ?_)
      (refine zDgo ?_)
      (refine po_on rfl rfl rfl (op_fun (c52 x (t.pools.take i) hsm) rfl rfl e52 zLe rfl (fun r hr => ?_)); subst hr; refine ⟨rfl, zLok, ?_⟩; refine zDn ?_)
      (refine zDgo ?_)
      (refine zGo ?_)
      refine pw_cond rfl (fun h3 => ?_) (fun h3 => ?_)
      · (refine zGo ?_)
        refine ret1 _ rfl ?_ rfl
        rw [allI_false hlt (by rw [hx, rvPool, h2, h3]; rfl)]
      · (refine zGo ?_)
        refine ⟨i + 1, ⟨hlt, fun j d hj hd => ?_⟩, by omega, by (exact zLe), by (exact zLes)⟩
        rcases Nat.lt_succ_iff_lt_or_eq.1 hj with hj | rfl
        · exact hno j d hj hd
        · rw [hg] at hd; cases hd
          rw [rvPool, h2, h3]; rfl
  simp only [decide_eq_false_iff_not, List.length_map] at h1
  have a5 : allI (rvPool t.pools) t.pools = true := allI_true fun j d hd => hno j d (by have := (List.getElem?_eq_some_iff.1 hd).1; omega) hd
  rw [a5]
  (refine zGo ?_)
  exact ret1 _ rfl rfl rfl
end Go.Proofs.YtdehdgbdcfkpbaaGreatDoor
