/-
 The reference's Complete.
 Some devices, links and edges, for lists' elements.
-/
import Derived.Test.YtokclomhkggikaaGreatDoorKU4
import Derived.Test.YtokclomhkggikaaGreatDoorKTab
import Derived.Test.YtokclomhkggikaaGreatDoorKA2
import Derived.Test.YtokclomhkggikaaGreatDoorKD2
import Derived.Test.YtokclomhkggikaaGreatDoorJPwFork
import Derived.Test.YtokclomhkggikaaGreatDoorJPwApX
set_option maxHeartbeats 20000000
set_option maxRecDepth 100000
namespace Go.Proofs.YtokclomhkggikaaGreatDoor
open Go Go.Pw
section
variable {Gl : Glob}
attribute [local irreducible] PW PWL OpP PCalls PWO PWT bothT
def sRanges : Str := [114, 97, 110, 103, 101, 115]
def sVol : Str := [118, 111, 108, 97, 116, 105, 108, 101]
def sClass : Str := [99, 108, 97, 115, 115]
def optN (w : List Str) (n : Nat) (word : Str) : Nat := match w[n]? == some word with | true => n + 1 | false => n
def n1 (w : List Str) : Nat := optN w 4 sRanges
def n2 (w : List Str) : Nat := optN w (n1 w) sVol
def n3 (w : List Str) : Nat := optN w (n2 w) sClass
structure TLim (t : Topo) : Prop where
 devs : t.devs.length ≤ 12
 links : t.links.length ≤ 24
 edges : t.edges.length ≤ 12
 pools : t.pools.length ≤ 8
theorem TLim.ok {t : Topo} (h : TLim t) : TOk t := ⟨by have := h.devs; unfold Small; omega, by have := h.links; unfold Small; omega, by have := h.edges; unfold Small; omega, by have := h.pools; unfold Small; omega⟩
end
section
variable {Gl : Glob}
attribute [local irreducible] PW PWL OpP PCalls
theorem c66 (t : Topo) (name : Str) (hl : Small t.devs) : PFun Tryz.prog Gl 221 [eTopo t, .str name] fun r => r = .int .i64 (firstAt (fun d => d.name == name) t.devs) := by
 refine PFun.of hT Tryz.func221 rfl fun B hD => ?_
 refine pw_norm rfl ?_
 (refine zGo ?_)
 refine pw_for hD (fun i : Nat => [(5, .int .i64 i)]) (fun _ => [.box (eTopo t).cells]) (fun i => i ≤ t.devs.length ∧ ∀ (j : Nat) d, j < i → t.devs[j]? = some d → (d.name == name) = false) (fun i => t.devs.length - i) 0 ⟨by omega, by intro j d h; omega⟩ 1 rfl (fun _ => rfl) (StLe.refl _) (fun _ => rfl) (fun _ => rfl) zLe ?_
 rintro i ⟨hi, hno⟩
 unfold Small at hl
 (refine zGo ?_)
 refine pw_cond rfl (fun h => ?_) (fun h => ?_)
 ·simp only [decide_eq_true_eq, List.length_map] at h
  have hlt : i < t.devs.length := by omega
  (refine zGo ?_)
  (refine pl_op rfl (op_of (v_index (p := eDev t.devs[i]) hT rfl rfl rfl rfl (by omega) (by simp [hlt]) rfl) ?_); (refine zNp ?_))
  (refine zGo ?_)
  refine pw_cond rfl (fun h2 => ?_) (fun h2 => ?_)
  ·(refine zGo ?_)
   refine ret1 _ rfl ?_ rfl
   rw [firstAt_hit hlt h2 hno]
  ·(refine zGo ?_)
   (refine zGo ?_)
   refine ⟨i + 1, ⟨by omega, fun j d hj hd => ?_⟩, by omega, zLe, StLe.refl _⟩
   rcases Nat.lt_succ_iff_lt_or_eq.1 hj with hj | rfl
   ·exact hno j d hj hd
   ·rw [List.getElem?_eq_getElem hlt] at hd; cases hd; exact h2
 ·simp only [decide_eq_false_iff_not, List.length_map] at h
  (refine zGo ?_)
  refine ret1 _ rfl ?_ rfl
  rw [firstAt_miss fun j x hj => hno j x (by have := (List.getElem?_eq_some_iff.1 hj).1; omega) hj]
attribute [local irreducible] PWO PWT bothT
theorem c50 (t : Topo) (name : Str) (hl : Small t.edges) : PFun Tryz.prog Gl 166 [eTopo t, .str name] fun r => r = .int .i64 (tEdge t name) := by
 refine PFun.of hT Tryz.func166 rfl fun B hD => ?_
 refine pw_norm rfl ?_
 (refine zGo ?_)
 refine pw_for hD (fun i : Nat => [(5, .int .i64 i)]) (fun _ => [.box (eTopo t).cells]) (fun i => i ≤ t.edges.length ∧ ∀ (j : Nat) d, j < i → t.edges[j]? = some d → (d.name == name) = false) (fun i => t.edges.length - i) 0 ⟨by omega, by intro j d h; omega⟩ 1 rfl (fun _ => rfl) (StLe.refl _) (fun _ => rfl) (fun _ => rfl) zLe ?_
 rintro i ⟨hi, hno⟩
 unfold Small at hl
 (refine zGo ?_)
 refine pw_cond rfl (fun h => ?_) (fun h => ?_)
 ·simp only [decide_eq_true_eq, List.length_map] at h
  have hlt : i < t.edges.length := by omega
  (refine zGo ?_)
  (refine pl_op rfl (op_of (v_index (p := eEdge t.edges[i]) hT rfl rfl rfl rfl (by omega) (by simp [hlt]) rfl) ?_); (refine zNp ?_))
  (refine zGo ?_)
  refine pw_cond rfl (fun h2 => ?_) (fun h2 => ?_)
  ·(refine zGo ?_)
   refine ret1 _ rfl ?_ rfl
   rw [tEdge, firstAt_hit hlt h2 hno]
  ·(refine zGo ?_)
   refine ⟨i + 1, ⟨by omega, fun j d hj hd => ?_⟩, by omega, zLe, StLe.refl _⟩
   rcases Nat.lt_succ_iff_lt_or_eq.1 hj with hj | rfl
   ·exact hno j d hj hd
   ·rw [List.getElem?_eq_getElem hlt] at hd; cases hd; exact h2
 ·simp only [decide_eq_false_iff_not, List.length_map] at h
  (refine zGo ?_)
  refine ret1 _ rfl ?_ rfl
  rw [tEdge, firstAt_miss fun j x hj => hno j x (by have := (List.getElem?_eq_some_iff.1 hj).1; omega) hj]
theorem c70 (t : Topo) (v : Int) (hl : Small t.edges) : PFun Tryz.prog Gl 55 [eTopo t, .int .i64 v] fun r => r = .sl ((tEdges t v).map eInt) := by
 refine PFun.of hT Tryz.func55 rfl fun B hD => ?_
 refine pw_norm rfl ?_
 (refine zGo ?_)
 refine pw_ghost 1 ?_
 refine pw_norm rfl ?_
 let p : TEdge → Bool := fun e => e.dev == v
 refine pw_for hD (fun a : Nat × Nat => [(5, .msl 1 1 0 ((selTo p t.edges a.1).map eInt).length a.2), (6, .int .i64 a.1)]) (fun a => [.box (eTopo t).cells, .arr 1 ((selTo p t.edges a.1).map eInt) a.2]) (fun a => a.1 ≤ t.edges.length) (fun a => t.edges.length - a.1) (0, 0) (by simp) 2 rfl (fun _ => rfl) (StLe.refl _) (fun _ => rfl)
  (fun _ => rfl) zLe ?_
 rintro ⟨i, cap⟩ hi
 unfold Small at hl
 (refine zGo ?_)
 refine pw_cond rfl (fun h => ?_) (fun h => ?_)
 ·simp only [decide_eq_true_eq, List.length_map] at h
  have hlt : i < t.edges.length := by omega
  (refine zGo ?_)
  (refine pl_op rfl (op_of (v_index (p := eEdge t.edges[i]) hT rfl rfl rfl rfl (by omega) (by simp [hlt]) rfl) ?_); (refine zNp ?_))
  (refine zGo ?_)
  refine pw_cond rfl (fun h2 => ?_) (fun h2 => ?_)
  ·(refine zGo ?_)
   have hn := selTo_len p t.edges i
   (refine pl_append (b := 8) hT hD rfl rfl rfl rfl rfl rfl rfl rfl (.inl (Nat.zero_lt_succ _)) rfl rfl (by simp; omega) (fun cap' _ hcap => ?_); (refine zNp ?_))
   (refine zGo ?_)
   have hs := selTo_yes (p := p) (l := t.edges) (List.getElem?_eq_getElem hlt) h2
   refine ⟨(i + 1, cap'), by show i + 1 ≤ _; omega, by show _ - (i + 1) < _ - i; omega, ?_, ?_⟩
   ·simp only [hs, List.map_append, List.length_append]
    (exact zLe)
   ·simp only [hs, List.map_append]
    (exact zLes)
  ·(refine zGo ?_)
   have hs := selTo_no (p := p) (l := t.edges) (List.getElem?_eq_getElem hlt) h2
   refine ⟨(i + 1, cap), by show i + 1 ≤ _; omega, by show _ - (i + 1) < _ - i; omega, ?_, ?_⟩
   ·simp only [hs]
    (exact zLe)
   ·simp only [hs]
    (exact zLes)
 ·simp only [decide_eq_false_iff_not, List.length_map] at h
  have hge : i = t.edges.length := by omega
  subst hge
  (refine zGo ?_)
  exact ret0 _ _ rfl rfl (.inr (.inr (.inr (.inl ⟨_, _, _, _, _, _, rfl, rfl, rfl, rfl, rfl⟩)))) rfl
theorem c48 (l : List TDev) : PFun Tryz.prog Gl 164 [.sl (l.map eDev)] fun r => r = .bool (rvDevs l) := by
 refine PFun.of hT Tryz.func164 rfl fun B hD => ?_
 refine pw_norm rfl ?_
 (refine zGo ?_)
 (refine pl_or 4 7 11 (decide (((l.map eDev).length : Int) > 12)) rfl rfl rfl (fun hb => ?_) (fun hb => ?_) ?_; (focus ((refine zNp ?_); (refine zGo ?_); exact ⟨zLe, StLe.refl _⟩)); (focus ((refine zNp ?_); (refine zGo ?_); exact ⟨zLe, StLe.refl _⟩)); (refine zNp ?_); (refine zGo ?_))
 refine pw_cond rfl (fun h => ?_) (fun h => ?_)
 ·rw [List.length_map] at h
  (refine zGo ?_)
  refine ret1 _ rfl ?_ rfl
  unfold rvDevs
  rw [h]; rfl
 rw [List.length_map] at h
 have hh := h
 simp only [Bool.or_eq_false_iff, decide_eq_false_iff_not] at hh
 have hs : Small l := by unfold Small; omega
 have hr : rvDevs l = allI (rvDev l) l := by unfold rvDevs; rw [h]; rfl
 rw [hr]
 clear h hr
 (refine zGo ?_)
 refine pw_for hD (fun i : Nat => [(3, .int .i64 i)]) (fun _ => []) (fun i => i ≤ l.length ∧ ∀ (j : Nat) d, j < i → l[j]? = some d → rvDev l j d = true) (fun i => l.length - i) 0 ⟨by omega, by intro j d h; omega⟩ 0 rfl (fun _ => rfl) (StLe.refl _) (fun _ => rfl) (fun _ => rfl) zLe ?_
 rintro i ⟨hi, hno⟩
 (refine zGo ?_)
 refine pw_cond rfl (fun h1 => ?_) (fun h1 => ?_)
 ·simp only [decide_eq_true_eq, List.length_map] at h1
  have hlt : i < l.length := by omega
  have hp : (l.map eDev)[i]? = some (eDev l[i]) := by simp [hlt]
  have hg : l[i]? = some l[i] := List.getElem?_eq_getElem hlt
  generalize hd : l[i] = d at hp hg
  (refine zGo ?_)
  (refine pl_op rfl (op_of (v_index (p := eDev d) hT rfl rfl rfl rfl (by omega) (hp) rfl) ?_); (refine zNp ?_))
  (refine zGo ?_)
  (refine pl_op rfl (op_fun (c92 d.name) rfl rfl e220 zLe rfl (fun r hr => ?_)); subst hr; refine ⟨rfl, ?_⟩; (refine zNp ?_))
  (refine zGo ?_)
  (refine pl_or 11 25 36 (tDevice ⟨l, [], [], [], 0⟩ d.name != (i : Int)) rfl rfl rfl (fun hb => ?_) (fun hb => ?_) ?_; (focus ((refine zNp ?_); (refine zGo ?_); exact ⟨zLe, StLe.refl _⟩)); (focus ((refine zNp ?_); (refine zGo ?_); (refine zGo ?_); (refine pl_on rfl rfl (op_of (v_index (p := eDev d) hT rfl rfl rfl rfl (by omega) (hp) rfl) ?_); (refine zNp ?_)); (refine zGo ?_); (refine pl_on rfl rfl (op_lend0 (c66 ⟨l, [], [], [], 0⟩ d.name hs) rfl rfl e221 (by (repeat (first | exact True.intro | refine ⟨.inr (.inl rfl), ?_⟩ | refine ⟨.inr (.inr (.inl ⟨rfl, rfl⟩)), ?_⟩ | refine ⟨.inr (.inr (.inr (.inr (.inl ⟨_, _, rfl, rfl, ?_⟩)))), ?_⟩))) rfl (fun r hr => ?_)); subst hr; refine ⟨rfl, ?_⟩; (refine zNp ?_)); (refine zGo ?_); exact ⟨zLe, StLe.refl _⟩)); (refine zNp ?_); (refine zGo ?_))
  (refine pl_or 7 37 44 (decide (d.cap < 0)) rfl rfl rfl (fun hb => ?_) (fun hb => ?_) ?_; (focus ((refine zNp ?_); (refine zGo ?_); exact ⟨zLe, StLe.refl _⟩)); (focus ((refine zNp ?_); (refine zGo ?_); (refine pl_on rfl rfl (op_of (v_index (p := eDev d) hT rfl rfl rfl rfl (by omega) (hp) rfl) ?_); (refine zNp ?_)); (refine zGo ?_); exact ⟨zLe, StLe.refl _⟩)); (refine zNp ?_); (refine zGo ?_))
  (refine pl_or 7 45 52 (decide (d.cap > 4096)) rfl rfl rfl (fun hb => ?_) (fun hb => ?_) ?_; (focus ((refine zNp ?_); (refine zGo ?_); exact ⟨zLe, StLe.refl _⟩)); (focus ((refine zNp ?_); (refine zGo ?_); (refine pl_on rfl rfl (op_of (v_index (p := eDev d) hT rfl rfl rfl rfl (by omega) (hp) rfl) ?_); (refine zNp ?_)); (refine zGo ?_); exact ⟨zLe, StLe.refl _⟩)); (refine zNp ?_); (refine zGo ?_))
  refine pl_or 16 53 69 (!(d.cls == []) && !vname d.cls) rfl rfl rfl (fun _ => ?_) (fun _ => ?_) ?_
  ·refine pl_norm rfl ?_
   (refine zGo ?_)
   exact ⟨zLe, StLe.refl _⟩
  ·refine pl_norm rfl ?_
   (refine zGo ?_)
   (refine pl_on rfl rfl (op_of (v_index (p := eDev d) hT rfl rfl rfl rfl (by omega) (hp) rfl) ?_); (refine zNp ?_))
   (refine zGo ?_)
   refine pl_and 8 60 68 (!vname d.cls) rfl rfl rfl (fun _ => ?_) (fun _ => ?_) ?_
   ·refine pl_norm rfl ?_
    (refine zGo ?_)
    (refine pl_on rfl rfl (op_of (v_index (p := eDev d) hT rfl rfl rfl rfl (by omega) (hp) rfl) ?_); (refine zNp ?_))
    (refine zGo ?_)
    (refine pl_on rfl rfl (op_fun (c92 d.cls) rfl rfl e220 zLe rfl (fun r hr => ?_)); subst hr; refine ⟨rfl, ?_⟩; (refine zNp ?_))
    (refine zGo ?_)
    exact ⟨zLe, StLe.refl _⟩
   ·refine pl_norm rfl ?_
    (refine zGo ?_)
    exact ⟨zLe, StLe.refl _⟩
   refine pl_norm rfl ?_
   (refine zGo ?_)
   exact ⟨zLe, StLe.refl _⟩
  refine pl_norm rfl ?_
  (refine zGo ?_)
  refine pw_cond rfl (fun h2 => ?_) (fun h2 => ?_)
  ·(refine zGo ?_)
   refine ret1 _ rfl ?_ rfl
   rw [allI_false hlt (by rw [hd, rvDev, h2]; rfl)]
  ·(refine zGo ?_)
   refine ⟨i + 1, ⟨hlt, fun j x hj hx => ?_⟩, by omega, zLe, StLe.refl _⟩
   rcases Nat.lt_succ_iff_lt_or_eq.1 hj with hj | rfl
   ·exact hno j x hj hx
   ·rw [hg] at hx; cases hx
    rw [rvDev, h2]; rfl
 simp only [decide_eq_false_iff_not, List.length_map] at h1
 have a1 : allI (rvDev l) l = true := allI_true fun j d hd => hno j d (by have := (List.getElem?_eq_some_iff.1 hd).1; omega) hd
 rw [a1]
 (refine zGo ?_)
 exact ret1 _ rfl rfl rfl
theorem c49 (e : TEdge) (n : Int) : PFun Tryz.prog Gl 165 [eEdge e, .int .i64 n] fun r => r = .bool (rvEdge e n) := by
 refine PFun.of hT Tryz.func165 rfl fun B hD => ?_
 refine pw_norm rfl ?_
 (refine zGo ?_)
 (refine pl_op rfl (op_fun (c92 e.name) rfl rfl e220 zLe rfl (fun r hr => ?_)); subst hr; refine ⟨rfl, ?_⟩; (refine zNp ?_))
 (refine zGo ?_)
 (refine pl_or 5 9 14 (!vname e.zone) rfl rfl rfl (fun hb => ?_) (fun hb => ?_) ?_; (focus ((refine zNp ?_); (refine zGo ?_); exact ⟨zLe, StLe.refl _⟩)); (focus ((refine zNp ?_); (refine zGo ?_); (refine pl_on rfl rfl (op_fun (c92 e.zone) rfl rfl e220 zLe rfl (fun r hr => ?_)); subst hr; refine ⟨rfl, ?_⟩; (refine zNp ?_)); (refine zGo ?_); exact ⟨zLe, StLe.refl _⟩)); (refine zNp ?_); (refine zGo ?_))
 (refine pl_or 4 15 19 (decide (e.dev < 0)) rfl rfl rfl (fun hb => ?_) (fun hb => ?_) ?_; (focus ((refine zNp ?_); (refine zGo ?_); exact ⟨zLe, StLe.refl _⟩)); (focus ((refine zNp ?_); (refine zGo ?_); exact ⟨zLe, StLe.refl _⟩)); (refine zNp ?_); (refine zGo ?_))
 (refine pl_or 5 20 25 (decide (e.dev ≥ n)) rfl rfl rfl (fun hb => ?_) (fun hb => ?_) ?_; (focus ((refine zNp ?_); (refine zGo ?_); exact ⟨zLe, StLe.refl _⟩)); (focus ((refine zNp ?_); (refine zGo ?_); exact ⟨zLe, StLe.refl _⟩)); (refine zNp ?_); (refine zGo ?_))
 (refine pl_or 5 26 31 (decide (e.pfx.bits < 1)) rfl rfl rfl (fun hb => ?_) (fun hb => ?_) ?_; (focus ((refine zNp ?_); (refine zGo ?_); exact ⟨zLe, StLe.refl _⟩)); (focus ((refine zNp ?_); (refine zGo ?_); exact ⟨zLe, StLe.refl _⟩)); (refine zNp ?_); (refine zGo ?_))
 refine pw_cond rfl (fun h => ?_) (fun h => ?_)
 ·(refine zGo ?_)
  refine ret1 _ rfl ?_ rfl
  unfold rvEdge
  rw [h]; rfl
 have hr : rvEdge e n = (rvalid e.pfx && (!e.planned || (e.pfx.addr == 0))) := by unfold rvEdge; rw [h]; rfl
 rw [hr]
 clear h hr
 (refine zGo ?_)
 (refine pl_op rfl (op_fun (c53 e.pfx) rfl rfl e106 zLe rfl (fun r hr => ?_)); subst hr; refine ⟨rfl, ?_⟩; (refine zNp ?_))
 (refine zGo ?_)
 refine pl_and 10 35 45 (!e.planned || (e.pfx.addr == 0)) rfl rfl rfl (fun _ => ?_) (fun _ => ?_) ?_
 ·refine pl_norm rfl ?_
  (refine zGo ?_)
  (refine pl_or 5 39 44 (e.pfx.addr == 0) rfl rfl rfl (fun hb => ?_) (fun hb => ?_) ?_; (focus ((refine zNp ?_); (refine zGo ?_); exact ⟨zLe, StLe.refl _⟩)); (focus ((refine zNp ?_); (refine zGo ?_); exact ⟨zLe, StLe.refl _⟩)); (refine zNp ?_); (refine zGo ?_))
  exact ⟨zLe, StLe.refl _⟩
 ·refine pl_norm rfl ?_
  (refine zGo ?_)
  exact ⟨zLe, StLe.refl _⟩
 refine pl_norm rfl ?_
 (refine zGo ?_)
 exact ret1 _ rfl rfl rfl
theorem c21 (t : Topo) : PFun Tryz.prog Gl 114 [eTopo t] fun r => r = .bool (rValid t) := by
 refine PFun.of hT Tryz.func114 rfl fun B hD => ?_
 refine pw_norm rfl ?_
 (refine zGo ?_)
 (refine pl_op rfl (op_fun (c48 t.devs) rfl rfl e164 zLe rfl (fun r hr => ?_)); subst hr; refine ⟨rfl, ?_⟩; (refine zNp ?_))
 (refine zGo ?_)
 (refine pl_or 5 13 18 (decide (((t.links.map eLink).length : Int) > 24)) rfl rfl rfl (fun hb => ?_) (fun hb => ?_) ?_; (focus ((refine zNp ?_); (refine zGo ?_); exact ⟨zLe, StLe.refl _⟩)); (focus ((refine zNp ?_); (refine zGo ?_); exact ⟨zLe, StLe.refl _⟩)); (refine zNp ?_); (refine zGo ?_))
 (refine pl_or 5 19 24 (decide (((t.edges.map eEdge).length : Int) > 12)) rfl rfl rfl (fun hb => ?_) (fun hb => ?_) ?_; (focus ((refine zNp ?_); (refine zGo ?_); exact ⟨zLe, StLe.refl _⟩)); (focus ((refine zNp ?_); (refine zGo ?_); exact ⟨zLe, StLe.refl _⟩)); (refine zNp ?_); (refine zGo ?_))
 (refine pl_or 5 25 30 (decide (((t.pools.map ePfx).length : Int) > 8)) rfl rfl rfl (fun hb => ?_) (fun hb => ?_) ?_; (focus ((refine zNp ?_); (refine zGo ?_); exact ⟨zLe, StLe.refl _⟩)); (focus ((refine zNp ?_); (refine zGo ?_); exact ⟨zLe, StLe.refl _⟩)); (refine zNp ?_); (refine zGo ?_))
 (refine pl_or 4 31 35 (decide (t.tol < 0)) rfl rfl rfl (fun hb => ?_) (fun hb => ?_) ?_; (focus ((refine zNp ?_); (refine zGo ?_); exact ⟨zLe, StLe.refl _⟩)); (focus ((refine zNp ?_); (refine zGo ?_); exact ⟨zLe, StLe.refl _⟩)); (refine zNp ?_); (refine zGo ?_))
 (refine pl_or 4 36 40 (decide (t.tol > 2)) rfl rfl rfl (fun hb => ?_) (fun hb => ?_) ?_; (focus ((refine zNp ?_); (refine zGo ?_); exact ⟨zLe, StLe.refl _⟩)); (focus ((refine zNp ?_); (refine zGo ?_); exact ⟨zLe, StLe.refl _⟩)); (refine zNp ?_); (refine zGo ?_))
 refine pw_cond rfl (fun h => ?_) (fun h => ?_)
 ·have h' : rvHead t = true := by simp only [List.length_map] at h; exact h
  (refine zGo ?_)
  refine ret1 _ rfl ?_ rfl
  rw [rValid, h']; rfl
 have h' : rvHead t = false := by simp only [List.length_map] at h; exact h
 clear h
 have hh := h'
 simp only [rvHead, rvDevs, Bool.or_eq_false_iff, Bool.not_eq_false', Bool.and_eq_true, Bool.not_eq_true', decide_eq_false_iff_not] at hh
 have hv : rValid t = (t.links.all (rvLink t) && (allI (rvEdgeI t) t.edges && (allI (rvMeet (fixed t.edges)) (fixed t.edges) && allI (rvPool t.pools) t.pools))) := by rw [rValid, h']; rfl
 rw [hv]
 clear hv h'
 have sd : Small t.devs := by unfold Small; omega
 have se : Small t.edges := by unfold Small; omega
 have sl : t.links.length ≤ 24 := by omega
 have sp : t.pools.length ≤ 8 := by omega
 clear hh
 have se' := se
 unfold Small at se'
 (refine zGo ?_)
 refine pw_for hD (fun i : Nat => [(3, .int .i64 i)]) (fun _ => [.box (eTopo t).cells]) (fun i => i ≤ t.links.length ∧ ∀ (j : Nat) d, j < i → t.links[j]? = some d → rvLink t d = true) (fun i => t.links.length - i) 0 ⟨by omega, by intro j d h; omega⟩ 1 rfl (fun _ => rfl) zLes (fun _ => rfl) (fun _ => rfl) zLe ?_
 rintro i ⟨hi, hno⟩
 (refine zGo ?_)
 refine pw_cond rfl (fun h1 => ?_) (fun h1 => ?_)
 ·simp only [decide_eq_true_eq, List.length_map] at h1
  have hlt : i < t.links.length := by omega
  have hp : (t.links.map eLink)[i]? = some (eLink t.links[i]) := by simp [hlt]
  have hg : t.links[i]? = some t.links[i] := List.getElem?_eq_getElem hlt
  have hm : t.links[i] ∈ t.links := List.getElem_mem hlt
  generalize t.links[i] = x at hp hg hm
  (refine zGo ?_)
  (refine pl_op rfl (op_of (v_index (p := eLink x) hT rfl rfl rfl rfl (by omega) (hp) rfl) ?_); (refine zNp ?_))
  (refine zGo ?_)
  (refine pl_or 6 56 62 (decide (x.b ≤ x.a)) rfl rfl rfl (fun hb => ?_) (fun hb => ?_) ?_; (focus ((refine zNp ?_); (refine zGo ?_); exact ⟨zLe, StLe.refl _⟩)); (focus ((refine zNp ?_); (refine zGo ?_); exact ⟨zLe, StLe.refl _⟩)); (refine zNp ?_); (refine zGo ?_))
  (refine pl_or 7 63 70 (decide (x.b ≥ (t.devs.map eDev).length)) rfl rfl rfl (fun hb => ?_) (fun hb => ?_) ?_; (focus ((refine zNp ?_); (refine zGo ?_); exact ⟨zLe, StLe.refl _⟩)); (focus ((refine zNp ?_); (refine zGo ?_); exact ⟨zLe, StLe.refl _⟩)); (refine zNp ?_); (refine zGo ?_))
  (refine pl_or 4 71 75 (decide (x.cost < 1)) rfl rfl rfl (fun hb => ?_) (fun hb => ?_) ?_; (focus ((refine zNp ?_); (refine zGo ?_); exact ⟨zLe, StLe.refl _⟩)); (focus ((refine zNp ?_); (refine zGo ?_); exact ⟨zLe, StLe.refl _⟩)); (refine zNp ?_); (refine zGo ?_))
  (refine pl_or 4 76 80 (decide (x.cost > 1000)) rfl rfl rfl (fun hb => ?_) (fun hb => ?_) ?_; (focus ((refine zNp ?_); (refine zGo ?_); exact ⟨zLe, StLe.refl _⟩)); (focus ((refine zNp ?_); (refine zGo ?_); exact ⟨zLe, StLe.refl _⟩)); (refine zNp ?_); (refine zGo ?_))
  refine pw_cond rfl (fun h2 => ?_) (fun h2 => ?_)
  ·rw [List.length_map] at h2
   (refine zGo ?_)
   refine ret1 _ rfl ?_ rfl
   rw [show t.links.all (rvLink t) = false from List.all_eq_false.2 ⟨_, hm, by rw [rvLink, h2]; exact Bool.false_ne_true⟩]; rfl
  ·rw [List.length_map] at h2
   (refine zGo ?_)
   refine ⟨i + 1, ⟨hlt, fun j d hj hd => ?_⟩, by omega, zLe, zLes⟩
   rcases Nat.lt_succ_iff_lt_or_eq.1 hj with hj | rfl
   ·exact hno j d hj hd
   ·rw [hg] at hd; cases hd
    rw [rvLink, h2]; rfl
 simp only [decide_eq_false_iff_not, List.length_map] at h1
 have a2 : t.links.all (rvLink t) = true := List.all_eq_true.2 fun d hd => by
  obtain ⟨j, hj⟩ := List.mem_iff_getElem?.1 hd
  exact hno j d (by have := (List.getElem?_eq_some_iff.1 hj).1; omega) hj
 rw [a2, Bool.true_and]
 clear h1 hno hi
 (refine zGo ?_)
 refine pw_for hD (fun i : Nat => [(5, .int .i64 i)]) (fun _ => [.box (eTopo t).cells]) (fun i => i ≤ t.edges.length ∧ ∀ (j : Nat) d, j < i → t.edges[j]? = some d → rvEdgeI t j d = true) (fun i => t.edges.length - i) 0 ⟨by omega, by intro j d h; omega⟩ 1 rfl (fun _ => rfl) zLes (fun _ => rfl) (fun _ => rfl) zLe ?_
 rintro i ⟨hi, hno⟩
 (refine zGo ?_)
 refine pw_cond rfl (fun h1 => ?_) (fun h1 => ?_)
 ·simp only [decide_eq_true_eq, List.length_map] at h1
  have hlt : i < t.edges.length := by omega
  have hp : (t.edges.map eEdge)[i]? = some (eEdge t.edges[i]) := by simp [hlt]
  have hg : t.edges[i]? = some t.edges[i] := List.getElem?_eq_getElem hlt
  generalize hx : t.edges[i] = x at hp hg
  have hn : rvEdge x ((t.devs.map eDev).length : Nat) = rvEdge x t.devs.length := by rw [List.length_map]
  (refine zGo ?_)
  refine zDr [[0,1,2,3,4,5,6,7],[8],[9,10,11,12,13,14,15,16,17,19],[18],[20,21]] ?_
  (refine zDgo ?_)
  (refine po_val rfl rfl (v_index (p := eEdge x) hT rfl rfl rfl rfl (by omega) hp rfl) ?_; refine zDn ?_)
  (refine zDgo ?_)
  (refine po_step rfl rfl (op_fun (c49 x ((t.devs.map eDev).length : Nat)) rfl rfl e165 zLe rfl (fun r hr => ?_)); subst hr; refine ⟨rfl, zLok, ?_⟩; refine zDn ?_)
  (refine zDgo ?_)
  refine po_split 98 rfl (fun h2 => ?_) (fun h2 => ?_)
  ·(refine zDgo ?_)
   (refine zGo ?_)
   refine ret1 _ rfl ?_ rfl
   rw [hn] at h2
   rw [allI_false hlt (by rw [hx, rvEdgeI, h2]; rfl)]; rfl
  ·(refine zDgo ?_)
   (refine po_gval rfl rfl rfl (v_index (p := eEdge x) hT rfl rfl rfl rfl (by omega) hp rfl) ?_; refine zDn ?_)
   (refine zDgo ?_)
   (refine po_on rfl rfl rfl (op_fun (c50 t x.name se) rfl rfl e166 zLe rfl (fun r hr => ?_)); subst hr; refine ⟨rfl, zLok, ?_⟩; refine zDn ?_)
   (refine zDgo ?_)
   (refine zGo ?_)
   rw [hn] at h2
   refine pw_cond rfl (fun h3 => ?_) (fun h3 => ?_)
   ·(refine zGo ?_)
    refine ret1 _ rfl ?_ rfl
    rw [allI_false hlt (by rw [hx, rvEdgeI, h2, h3]; rfl)]; rfl
   ·(refine zGo ?_)
    refine ⟨i + 1, ⟨hlt, fun j d hj hd => ?_⟩, by omega, zLe, zLes⟩
    rcases Nat.lt_succ_iff_lt_or_eq.1 hj with hj | rfl
    ·exact hno j d hj hd
    ·rw [hg] at hd; cases hd
     rw [rvEdgeI, h2, h3]; rfl
 simp only [decide_eq_false_iff_not, List.length_map] at h1
 have a3 : allI (rvEdgeI t) t.edges = true := allI_true fun j d hd => hno j d (by have := (List.getElem?_eq_some_iff.1 hd).1; omega) hd
 rw [a3, Bool.true_and]
 clear h1 hno hi
 have sf : Small (fixed t.edges) := by
  unfold Small fixed
  rw [List.length_map]
  have := List.length_filter_le (fun e => !e.planned) t.edges
  omega
 (refine zGo ?_)
 (refine pl_op rfl (op_fun (c51 t se) rfl rfl e115 zLe rfl (fun r hr => ?_)); subst hr; refine ⟨rfl, ?_⟩; (refine zNp ?_))
 (refine zGo ?_)
 generalize hF : fixed t.edges = F at sf
 have sf' := sf
 unfold Small at sf'
 refine pw_for hD (fun i : Nat => [(7, .int .i64 i)]) (fun _ => [.box (eTopo t).cells]) (fun i => i ≤ F.length ∧ ∀ (j : Nat) d, j < i → F[j]? = some d → rvMeet F j d = true) (fun i => F.length - i) 0 ⟨by omega, by intro j d h; omega⟩ 1 rfl (fun _ => rfl) zLes (fun _ => rfl) (fun _ => rfl) zLe ?_
 rintro i ⟨hi, hno⟩
 (refine zGo ?_)
 refine pw_cond rfl (fun h1 => ?_) (fun h1 => ?_)
 ·simp only [decide_eq_true_eq, List.length_map] at h1
  have hlt : i < F.length := by omega
  have hp : (F.map ePfx)[i]? = some (ePfx F[i]) := by simp [hlt]
  have hg : F[i]? = some F[i] := List.getElem?_eq_getElem hlt
  have hsm : Small (F.take i) := by unfold Small; have := List.length_take_le i F; omega
  generalize hx : F[i] = x at hp hg
  (refine zGo ?_)
  refine zDr [[0,1,2,3,4,5,6],[7]] ?_
  (refine zDgo ?_)
  (refine po_val rfl rfl (v_index (p := ePfx x) hT rfl rfl rfl rfl (by omega) hp rfl) ?_; refine zDn ?_)
  (refine zDgo ?_)
  (refine po_val rfl rfl (v_takeM (m := i) hT rfl rfl rfl rfl (by omega) (fun _ => rfl)) ?_; refine zDn ?_)
  (refine zDgo ?_)
  (refine po_step rfl rfl (op_fun (c52 x (F.take i) hsm) rfl rfl e167 zLe rfl (fun r hr => ?_)); subst hr; refine ⟨rfl, zLok, ?_⟩; refine zDn ?_)
  (refine zDgo ?_)
  (refine zGo ?_)
  refine pw_cond rfl (fun h2 => ?_) (fun h2 => ?_)
  ·(refine zGo ?_)
   refine ret1 _ rfl ?_ rfl
   rw [allI_false hlt (by rw [hx, rvMeet, h2]; rfl)]; rfl
  ·(refine zGo ?_)
   refine ⟨i + 1, ⟨hlt, fun j d hj hd => ?_⟩, by omega, zLe, zLes⟩
   rcases Nat.lt_succ_iff_lt_or_eq.1 hj with hj | rfl
   ·exact hno j d hj hd
   ·rw [hg] at hd; cases hd
    rw [rvMeet, h2]; rfl
 simp only [decide_eq_false_iff_not, List.length_map] at h1
 have a4 : allI (rvMeet F) F = true := allI_true fun j d hd => hno j d (by have := (List.getElem?_eq_some_iff.1 hd).1; omega) hd
 rw [a4, Bool.true_and]
 clear h1 hno hi
 (refine zGo ?_)
 refine pw_for hD (fun i : Nat => [(8, .int .i64 i)]) (fun _ => [.box (eTopo t).cells]) (fun i => i ≤ t.pools.length ∧ ∀ (j : Nat) d, j < i → t.pools[j]? = some d → rvPool t.pools j d = true) (fun i => t.pools.length - i) 0 ⟨by omega, by intro j d h; omega⟩ 1 rfl (fun _ => rfl) zLes (fun _ => rfl) (fun _ => rfl) zLe ?_
 rintro i ⟨hi, hno⟩
 (refine zGo ?_)
 refine pw_cond rfl (fun h1 => ?_) (fun h1 => ?_)
 ·simp only [decide_eq_true_eq, List.length_map] at h1
  have hlt : i < t.pools.length := by omega
  have hp : (t.pools.map ePfx)[i]? = some (ePfx t.pools[i]) := by simp [hlt]
  have hg : t.pools[i]? = some t.pools[i] := List.getElem?_eq_getElem hlt
  have hsm : Small (t.pools.take i) := by unfold Small; have := List.length_take_le i t.pools; omega
  generalize hx : t.pools[i] = x at hp hg
  (refine zGo ?_)
  refine zDr [[0,1,2,3,4],[5],[6,7,8,9,10,11,12,13,14,15,16],[17],[18]] ?_
  (refine zDgo ?_)
  (refine po_val rfl rfl (v_index (p := ePfx x) hT rfl rfl rfl rfl (by omega) hp rfl) ?_; refine zDn ?_)
  (refine zDgo ?_)
  (refine po_step rfl rfl (op_fun (c53 x) rfl rfl e106 zLe rfl (fun r hr => ?_)); subst hr; refine ⟨rfl, zLok, ?_⟩; refine zDn ?_)
  (refine zDgo ?_)
  refine po_split 140 rfl (fun h2 => ?_) (fun h2 => ?_)
  ·(refine zDgo ?_)
   (refine zGo ?_)
   refine ret1 _ rfl ?_ rfl
   rw [allI_false hlt (by rw [hx, rvPool, h2]; rfl)]
  ·(refine zDgo ?_)
   (refine po_gval rfl rfl rfl (v_index (p := ePfx x) hT rfl rfl rfl rfl (by omega) hp rfl) ?_; refine zDn ?_)
   (refine zDgo ?_)
   (refine po_gval rfl rfl rfl (v_takeM (m := i) hT rfl rfl rfl rfl (by omega) (fun _ => rfl)) ?_; refine zDn ?_)
   (refine zDgo ?_)
   (refine po_on rfl rfl rfl (op_fun (c52 x (t.pools.take i) hsm) rfl rfl e167 zLe rfl (fun r hr => ?_)); subst hr; refine ⟨rfl, zLok, ?_⟩; refine zDn ?_)
   (refine zDgo ?_)
   (refine zGo ?_)
   refine pw_cond rfl (fun h3 => ?_) (fun h3 => ?_)
   ·(refine zGo ?_)
    refine ret1 _ rfl ?_ rfl
    rw [allI_false hlt (by rw [hx, rvPool, h2, h3]; rfl)]
   ·(refine zGo ?_)
    refine ⟨i + 1, ⟨hlt, fun j d hj hd => ?_⟩, by omega, zLe, zLes⟩
    rcases Nat.lt_succ_iff_lt_or_eq.1 hj with hj | rfl
    ·exact hno j d hj hd
    ·rw [hg] at hd; cases hd
     rw [rvPool, h2, h3]; rfl
 simp only [decide_eq_false_iff_not, List.length_map] at h1
 have a5 : allI (rvPool t.pools) t.pools = true := allI_true fun j d hd => hno j d (by have := (List.getElem?_eq_some_iff.1 hd).1; omega) hd
 rw [a5]
 (refine zGo ?_)
 exact ret1 _ rfl rfl rfl
def rComplete (t : Topo) : Bool := rValid t && ((((fixed t.edges).length : Nat) : Int) == ((t.edges.length : Nat) : Int))
theorem c73 (t : Topo) (hl : Small t.edges) : PFun Tryz.prog Gl 74 [eTopo t] fun r => r = .bool (rComplete t) := by
 refine PFun.of hT Tryz.func74 rfl fun B hD => ?_
 refine pw_norm rfl ?_
 (refine zGo ?_)
 refine zDr [[0],[1],[2,3,6,7,8],[4],[5,9,10,11]] ?_
 (refine zDgo ?_)
 (refine po_step rfl rfl (op_fun (c21 t) rfl rfl e114 zLe rfl (fun r hr => ?_)); subst hr; refine ⟨rfl, zLok, ?_⟩; refine zDn ?_)
 (refine zDgo ?_)
 refine po_split 5 rfl (fun h => ?_) (fun h => ?_)
 ·(refine zDgo ?_)
  (refine po_on rfl rfl rfl (op_fun (c51 t hl) rfl rfl e115 zLe rfl (fun r hr => ?_)); subst hr; refine ⟨rfl, zLok, ?_⟩; refine zDn ?_)
  (refine zDgo ?_)
  (refine zGo ?_)
  refine ret1 _ rfl ?_ rfl
  unfold rComplete
  rw [h, List.length_map, List.length_map]
  rfl
 ·(refine zDgo ?_)
  (refine zGo ?_)
  refine ret1 _ rfl ?_ rfl
  unfold rComplete
  rw [h]
  rfl
theorem comp_eq (t : Topo) (h : TIn t) : rComplete t = tComplete t := by
 unfold rComplete tComplete
 rw [rValid_eq t h]
 congr 1
 have : ((fixed t.edges).length = t.edges.length) ↔ ∀ e ∈ t.edges, (!e.planned) = true := by
  unfold fixed
  rw [List.length_map, List.length_filter_eq_length_iff]
 rw [Bool.eq_iff_iff, beq_iff_eq, Bool.not_eq_true', List.any_eq_false]
 constructor
 ·intro e x hx
  have := this.1 (by omega) x hx
  simpa using this
 ·intro e
  have := this.2 fun x hx => by have := e x hx; simpa using this
  omega
end
section
instance : Inhabited TEdge := ⟨⟨[], 0, [], ⟨0, 0⟩, false⟩⟩
instance : Inhabited TDev := ⟨⟨[], 0, false, false, []⟩⟩
instance : Inhabited TLink := ⟨⟨0, 0, 0⟩⟩

end
end Go.Proofs.YtokclomhkggikaaGreatDoor