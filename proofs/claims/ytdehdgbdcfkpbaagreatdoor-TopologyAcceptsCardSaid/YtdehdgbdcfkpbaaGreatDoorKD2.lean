/-
  The two texts of the sanity check, reckoned by the kernel.
  What the lines of a text are like.
-/
import Derived.Test.YtdehdgbdcfkpbaaGreatDoorKB12
import Derived.KernelRfl
namespace Go.Proofs.YtdehdgbdcfkpbaaGreatDoor
open Go Go.Pw
variable {Gl : Glob}
attribute [local irreducible] PW PWL OpP PCalls PWO
set_option maxHeartbeats 20000000
set_option maxRecDepth 100000

/-- Every element has a property, which may look at its place. -/
def allI {α : Type} (p : Nat → α → Bool) (l : List α) : Bool := (List.range l.length).all fun i => match l[i]? with | some x => p i x | none => true
theorem allI_true {α : Type} {p : Nat → α → Bool} {l : List α} (h : ∀ (i : Nat) x, l[i]? = some x → p i x = true) : allI p l = true := by
  refine List.all_eq_true.2 fun i _ => ?_
  cases hx : l[i]? with
  | none => rfl
  | some x => exact h i x hx
theorem allI_get {α : Type} {p : Nat → α → Bool} {l : List α} (h : allI p l = true) {i : Nat} {x : α} (hx : l[i]? = some x) : p i x = true := by
  have := List.all_eq_true.1 h i (List.mem_range.2 (List.getElem?_eq_some_iff.1 hx).1)
  rw [hx] at this
  exact this
theorem allI_false {α : Type} {p : Nat → α → Bool} {l : List α} {i : Nat} (hi : i < l.length) (h : p i l[i] = false) : allI p l = false := by
  rw [Bool.eq_false_iff]
  intro e
  rw [allI_get e (List.getElem?_eq_getElem hi)] at h
  cases h
def vHead (t : Topo) : Bool := ((((((((t.devs.length : Int) == 0) || decide ((t.devs.length : Int) > 12)) || decide ((t.links.length : Int) > 24)) || decide ((t.edges.length : Int) > 12)) || decide ((t.pools.length : Int) > 8)) || decide (t.tol < 0)) || decide (t.tol > 2))
def gDev (t : Topo) (i : Nat) (d : TDev) : Bool := !(!vDevice d || (tDevice t d.name != (i : Int)))
def gLink (t : Topo) (l : TLink) : Bool := !((((decide (l.a < 0) || decide (l.a ≥ l.b)) || decide (l.b ≥ t.devs.length)) || decide (l.cost < 1)) || decide (l.cost > 1000))
def gMeet (e o : TEdge) : Bool := !((!e.planned && !o.planned) && pover e.pfx o.pfx)
def gEdge (t : Topo) (i : Nat) (e : TEdge) : Bool := !(!vEdge t e || (tEdge t e.name != (i : Int))) && (t.edges.take i).all (gMeet e)
def gPool (t : Topo) (i : Nat) (p : TPfx) : Bool := !(!pvalid p || (t.pools.take i).any (pover p))
def tValid (t : Topo) : Bool := !vHead t && (allI (gDev t) t.devs && (t.links.all (gLink t) && (allI (gEdge t) t.edges && allI (gPool t) t.pools)))
theorem c20 (t : Topo) : PFun Tryz.prog Gl 20 [eTopo t] fun r => r = .bool (tValid t) := by
  refine PFun.of hT Tryz.func20 rfl fun B hD => ?_
  refine pw_norm rfl ?_
  (refine zGo ?_)
  (refine pl_or 5 17 22 (decide (((t.devs.map eDev).length : Int) > 12)) rfl rfl rfl (fun hb => ?_) (fun hb => ?_) ?_; (focus ((refine zNp ?_); (refine zGo ?_); exact ⟨by (exact zLe), StLe.refl _⟩)); (focus ((refine zNp ?_); (refine zGo ?_); exact ⟨by (exact zLe), StLe.refl _⟩)); (refine zNp ?_); (refine zGo ?_))
  (refine pl_or 5 23 28 (decide (((t.links.map eLink).length : Int) > 24)) rfl rfl rfl (fun hb => ?_) (fun hb => ?_) ?_; (focus ((refine zNp ?_); (refine zGo ?_); exact ⟨by (exact zLe), StLe.refl _⟩)); (focus ((refine zNp ?_); (refine zGo ?_); exact ⟨by (exact zLe), StLe.refl _⟩)); (refine zNp ?_); (refine zGo ?_))
  (refine pl_or 5 29 34 (decide (((t.edges.map eEdge).length : Int) > 12)) rfl rfl rfl (fun hb => ?_) (fun hb => ?_) ?_; (focus ((refine zNp ?_); (refine zGo ?_); exact ⟨by (exact zLe), StLe.refl _⟩)); (focus ((refine zNp ?_); (refine zGo ?_); exact ⟨by (exact zLe), StLe.refl _⟩)); (refine zNp ?_); (refine zGo ?_))
  (refine pl_or 5 35 40 (decide (((t.pools.map ePfx).length : Int) > 8)) rfl rfl rfl (fun hb => ?_) (fun hb => ?_) ?_; (focus ((refine zNp ?_); (refine zGo ?_); exact ⟨by (exact zLe), StLe.refl _⟩)); (focus ((refine zNp ?_); (refine zGo ?_); exact ⟨by (exact zLe), StLe.refl _⟩)); (refine zNp ?_); (refine zGo ?_))
  (refine pl_or 4 41 45 (decide (t.tol < 0)) rfl rfl rfl (fun hb => ?_) (fun hb => ?_) ?_; (focus ((refine zNp ?_); (refine zGo ?_); exact ⟨by (exact zLe), StLe.refl _⟩)); (focus ((refine zNp ?_); (refine zGo ?_); exact ⟨by (exact zLe), StLe.refl _⟩)); (refine zNp ?_); (refine zGo ?_))
  (refine pl_or 4 46 50 (decide (t.tol > 2)) rfl rfl rfl (fun hb => ?_) (fun hb => ?_) ?_; (focus ((refine zNp ?_); (refine zGo ?_); exact ⟨by (exact zLe), StLe.refl _⟩)); (focus ((refine zNp ?_); (refine zGo ?_); exact ⟨by (exact zLe), StLe.refl _⟩)); (refine zNp ?_); (refine zGo ?_))
  refine pw_cond rfl (fun h => ?_) (fun h => ?_)
  · have h' : vHead t = true := by simp only [List.length_map] at h; exact h
    (refine zGo ?_)
    refine ret1 _ rfl ?_ rfl
    rw [tValid, h']; rfl
  have h' : vHead t = false := by simp only [List.length_map] at h; exact h
  have hh := h'
  simp only [vHead, Bool.or_eq_false_iff, decide_eq_false_iff_not] at hh
  clear h
  have hv : tValid t = (allI (gDev t) t.devs && (t.links.all (gLink t) && (allI (gEdge t) t.edges && allI (gPool t) t.pools))) := by rw [tValid, h']; rfl
  rw [hv]
  clear hv h'
  have sd : Small t.devs := by unfold Small; omega
  have se : Small t.edges := by unfold Small; omega
  have sp : Small t.pools := by unfold Small; omega
  (refine zGo ?_)
  refine pw_for hD (fun i : Nat => [(54, .int .i64 i)]) (fun _ => [.box (eTopo t).cells]) (fun i => i ≤ t.devs.length ∧ ∀ (j : Nat) d, j < i → t.devs[j]? = some d → gDev t j d = true) (fun i => t.devs.length - i) 0 ⟨by omega, by intro j d h; omega⟩ 1 rfl (fun _ => rfl) (by (exact zLes)) (fun _ => rfl) (fun _ => rfl) (by (exact zLe)) ?_
  rintro i ⟨hi, hno⟩
  (refine zGo ?_)
  refine pw_cond rfl (fun h1 => ?_) (fun h1 => ?_)
  · simp only [decide_eq_true_eq, List.length_map] at h1
    have hlt : i < t.devs.length := by omega
    (refine zGo ?_)
    (refine pl_op rfl (op_of (v_index (p := eDev t.devs[i]) hT rfl rfl rfl rfl (by omega) (by simp [hlt]) rfl) ?_); (refine zNp ?_))
    (refine zGo ?_)
    (refine pl_op rfl (op_fun (c40 t.devs[i]) rfl rfl e40 zLe rfl (fun r hr => ?_)); subst hr; refine ⟨rfl, ?_⟩; (refine zNp ?_))
    (refine zGo ?_)
    (refine pl_or 7 62 69 (tDevice t t.devs[i].name != (i : Int)) rfl rfl rfl (fun hb => ?_) (fun hb => ?_) ?_; (focus ((refine zNp ?_); (refine zGo ?_); exact ⟨by (exact zLe), StLe.refl _⟩)); (focus ((refine zNp ?_); (refine zGo ?_); (refine zGo ?_); (refine pl_on rfl rfl (op_fun (c41 t t.devs[i].name sd) rfl rfl e41 zLe rfl (fun r hr => ?_)); subst hr; refine ⟨rfl, ?_⟩; (refine zNp ?_)); (refine zGo ?_); exact ⟨by (exact zLe), StLe.refl _⟩)); (refine zNp ?_); (refine zGo ?_))
    refine pw_cond rfl (fun h2 => ?_) (fun h2 => ?_)
    · (refine zGo ?_)
      refine ret1 _ rfl ?_ rfl
      rw [allI_false hlt (by rw [gDev, h2]; rfl)]; rfl
    · (refine zGo ?_)
      refine ⟨i + 1, ⟨by omega, fun j d hj hd => ?_⟩, by omega, by (exact zLe), by (exact zLes)⟩
      rcases Nat.lt_succ_iff_lt_or_eq.1 hj with hj | rfl
      · exact hno j d hj hd
      · rw [List.getElem?_eq_getElem hlt] at hd; cases hd
        rw [gDev, h2]; rfl
  simp only [decide_eq_false_iff_not, List.length_map] at h1
  have a1 : allI (gDev t) t.devs = true := allI_true fun j d hd => hno j d (by have := (List.getElem?_eq_some_iff.1 hd).1; omega) hd
  rw [a1, Bool.true_and]
  clear h1 hno hi
  (refine zGo ?_)
  refine pw_for hD (fun i : Nat => [(74, .int .i64 i)]) (fun _ => [.box (eTopo t).cells]) (fun i => i ≤ t.links.length ∧ ∀ (j : Nat) d, j < i → t.links[j]? = some d → gLink t d = true) (fun i => t.links.length - i) 0 ⟨by omega, by intro j d h; omega⟩ 1 rfl (fun _ => rfl) (by (exact zLes)) (fun _ => rfl) (fun _ => rfl) (by (exact zLe)) ?_
  rintro i ⟨hi, hno⟩
  (refine zGo ?_)
  refine pw_cond rfl (fun h1 => ?_) (fun h1 => ?_)
  · simp only [decide_eq_true_eq, List.length_map] at h1
    have hlt : i < t.links.length := by omega
    (refine zGo ?_)
    (refine pl_op rfl (op_of (v_index (p := eLink t.links[i]) hT rfl rfl rfl rfl (by omega) (by simp [hlt]) rfl) ?_); (refine zNp ?_))
    (refine zGo ?_)
    (refine pl_or 6 81 87 (decide (t.links[i].a ≥ t.links[i].b)) rfl rfl rfl (fun hb => ?_) (fun hb => ?_) ?_; (focus ((refine zNp ?_); (refine zGo ?_); exact ⟨by (exact zLe), StLe.refl _⟩)); (focus ((refine zNp ?_); (refine zGo ?_); exact ⟨by (exact zLe), StLe.refl _⟩)); (refine zNp ?_); (refine zGo ?_))
    (refine pl_or 7 88 95 (decide (t.links[i].b ≥ (t.devs.map eDev).length)) rfl rfl rfl (fun hb => ?_) (fun hb => ?_) ?_; (focus ((refine zNp ?_); (refine zGo ?_); exact ⟨by (exact zLe), StLe.refl _⟩)); (focus ((refine zNp ?_); (refine zGo ?_); exact ⟨by (exact zLe), StLe.refl _⟩)); (refine zNp ?_); (refine zGo ?_))
    (refine pl_or 4 96 100 (decide (t.links[i].cost < 1)) rfl rfl rfl (fun hb => ?_) (fun hb => ?_) ?_; (focus ((refine zNp ?_); (refine zGo ?_); exact ⟨by (exact zLe), StLe.refl _⟩)); (focus ((refine zNp ?_); (refine zGo ?_); exact ⟨by (exact zLe), StLe.refl _⟩)); (refine zNp ?_); (refine zGo ?_))
    (refine pl_or 4 101 105 (decide (t.links[i].cost > 1000)) rfl rfl rfl (fun hb => ?_) (fun hb => ?_) ?_; (focus ((refine zNp ?_); (refine zGo ?_); exact ⟨by (exact zLe), StLe.refl _⟩)); (focus ((refine zNp ?_); (refine zGo ?_); exact ⟨by (exact zLe), StLe.refl _⟩)); (refine zNp ?_); (refine zGo ?_))
    refine pw_cond rfl (fun h2 => ?_) (fun h2 => ?_)
    · rw [List.length_map] at h2
      (refine zGo ?_)
      refine ret1 _ rfl ?_ rfl
      rw [show t.links.all (gLink t) = false from List.all_eq_false.2 ⟨_, List.getElem_mem hlt, by rw [gLink, h2]; exact Bool.false_ne_true⟩]; rfl
    · rw [List.length_map] at h2
      (refine zGo ?_)
      refine ⟨i + 1, ⟨by omega, fun j d hj hd => ?_⟩, by omega, by (exact zLe), by (exact zLes)⟩
      rcases Nat.lt_succ_iff_lt_or_eq.1 hj with hj | rfl
      · exact hno j d hj hd
      · rw [List.getElem?_eq_getElem hlt] at hd; cases hd
        rw [gLink, h2]; rfl
  simp only [decide_eq_false_iff_not, List.length_map] at h1
  have a2 : t.links.all (gLink t) = true := List.all_eq_true.2 fun d hd => by
    obtain ⟨j, hj⟩ := List.mem_iff_getElem?.1 hd
    exact hno j d (by have := (List.getElem?_eq_some_iff.1 hj).1; omega) hj
  rw [a2, Bool.true_and]
  clear h1 hno hi
  (refine zGo ?_)
  refine pw_for hD (fun i : Nat => [(110, .int .i64 i)]) (fun _ => [.box (eTopo t).cells]) (fun i => i ≤ t.edges.length ∧ ∀ (j : Nat) d, j < i → t.edges[j]? = some d → gEdge t j d = true) (fun i => t.edges.length - i) 0 ⟨by omega, by intro j d h; omega⟩ 1 rfl (fun _ => rfl) (by (exact zLes)) (fun _ => rfl) (fun _ => rfl) (by (exact zLe)) ?_
  rintro i ⟨hi, hno⟩
  (refine zGo ?_)
  refine pw_cond rfl (fun h1 => ?_) (fun h1 => ?_)
  · simp only [decide_eq_true_eq, List.length_map] at h1
    have hlt : i < t.edges.length := by omega
    (refine zGo ?_)
    (refine pl_op rfl (op_of (v_index (p := eEdge t.edges[i]) hT rfl rfl rfl rfl (by omega) (by simp [hlt]) rfl) ?_); (refine zNp ?_))
    (refine zGo ?_)
    (refine pl_op rfl (op_fun (c42 t t.edges[i]) rfl rfl e42 zLe rfl (fun r hr => ?_)); subst hr; refine ⟨rfl, ?_⟩; (refine zNp ?_))
    (refine zGo ?_)
    (refine pl_or 7 119 126 (tEdge t t.edges[i].name != (i : Int)) rfl rfl rfl (fun hb => ?_) (fun hb => ?_) ?_; (focus ((refine zNp ?_); (refine zGo ?_); exact ⟨by (exact zLe), StLe.refl _⟩)); (focus ((refine zNp ?_); (refine zGo ?_); (refine zGo ?_); (refine pl_on rfl rfl (op_fun (c43 t t.edges[i].name se) rfl rfl e43 zLe rfl (fun r hr => ?_)); subst hr; refine ⟨rfl, ?_⟩; (refine zNp ?_)); (refine zGo ?_); exact ⟨by (exact zLe), StLe.refl _⟩)); (refine zNp ?_); (refine zGo ?_))
    refine pw_cond rfl (fun h2 => ?_) (fun h2 => ?_)
    · (refine zGo ?_)
      refine ret1 _ rfl ?_ rfl
      rw [allI_false hlt (by rw [gEdge, h2]; rfl)]; rfl
    (refine zGo ?_)
    (refine pl_op rfl (op_of (v_takeM (m := i) hT rfl rfl rfl rfl (by omega) (fun _ => rfl)) ?_); (refine zNp ?_))
    have hge : gEdge t i t.edges[i] = (t.edges.take i).all (gMeet t.edges[i]) := by rw [gEdge, h2]; rfl
    have hll : (t.edges.take i).length ≤ i := List.length_take_le _ _
    generalize t.edges.take i = l at hge hll ⊢
    (refine zGo ?_)
    refine pw_for hD (fun k : Nat => [(132, .int .i64 k)]) (fun _ => [.box (eTopo t).cells, .box (eEdge t.edges[i]).cells]) (fun k => k ≤ l.length ∧ ∀ (j : Nat) d, j < k → l[j]? = some d → gMeet t.edges[i] d = true) (fun k => l.length - k) 0 ⟨by omega, by intro j d h; omega⟩ 2 rfl (fun _ => rfl) (by (exact zLes)) (fun _ => rfl) (fun _ => rfl) (by (exact zLe)) ?_
    rintro k ⟨hk, hnk⟩
    (refine zGo ?_)
    refine pw_cond rfl (fun h3 => ?_) (fun h3 => ?_)
    · simp only [decide_eq_true_eq, List.length_map] at h3
      have hlk : k < l.length := by omega
      (refine zGo ?_)
      (refine pl_op rfl (op_of (v_index (p := eEdge l[k]) hT rfl rfl rfl rfl (by omega) (by simp [hlk]) rfl) ?_); (refine zNp ?_))
      (refine zGo ?_)
      (refine pl_and 4 139 143 (!l[k].planned) rfl rfl rfl (fun hb => ?_) (fun hb => ?_) ?_; (focus ((refine zNp ?_); (refine zGo ?_); exact ⟨by (exact zLe), StLe.refl _⟩)); (focus ((refine zNp ?_); (refine zGo ?_); exact ⟨by (exact zLe), StLe.refl _⟩)); (refine zNp ?_); (refine zGo ?_))
      (refine pl_and 6 144 150 (pover t.edges[i].pfx l[k].pfx) rfl rfl rfl (fun hb => ?_) (fun hb => ?_) ?_; (focus ((refine zNp ?_); (refine zGo ?_); (refine zGo ?_); (refine pl_on rfl rfl (op_fun (c44 t.edges[i].pfx l[k].pfx) rfl rfl e44 zLe rfl (fun r hr => ?_)); subst hr; refine ⟨rfl, ?_⟩; (refine zNp ?_)); (refine zGo ?_); exact ⟨by (exact zLe), StLe.refl _⟩)); (focus ((refine zNp ?_); (refine zGo ?_); exact ⟨by (exact zLe), StLe.refl _⟩)); (refine zNp ?_); (refine zGo ?_))
      refine pw_cond rfl (fun h4 => ?_) (fun h4 => ?_)
      · (refine zGo ?_)
        refine ret1 _ rfl ?_ rfl
        rw [allI_false hlt (by rw [hge]; exact List.all_eq_false.2 ⟨_, List.getElem_mem hlk, by rw [gMeet, h4]; exact Bool.false_ne_true⟩)]; rfl
      · (refine zGo ?_)
        refine ⟨k + 1, ⟨by omega, fun j d hj hd => ?_⟩, by omega, by (exact zLe), by (exact zLes)⟩
        rcases Nat.lt_succ_iff_lt_or_eq.1 hj with hj | rfl
        · exact hnk j d hj hd
        · rw [List.getElem?_eq_getElem hlk] at hd; cases hd
          rw [gMeet, h4]; rfl
    simp only [decide_eq_false_iff_not, List.length_map] at h3
    have hgt : gEdge t i t.edges[i] = true := by
      rw [hge]
      refine List.all_eq_true.2 fun d hd => ?_
      obtain ⟨j, hj⟩ := List.mem_iff_getElem?.1 hd
      exact hnk j d (by have := (List.getElem?_eq_some_iff.1 hj).1; omega) hj
    (refine zGo ?_)
    refine ⟨i + 1, ⟨by omega, fun j d hj hd => ?_⟩, by omega, by (exact zLe), by (exact zLes)⟩
    rcases Nat.lt_succ_iff_lt_or_eq.1 hj with hj | rfl
    · exact hno j d hj hd
    · rw [List.getElem?_eq_getElem hlt] at hd; cases hd
      exact hgt
  simp only [decide_eq_false_iff_not, List.length_map] at h1
  have a3 : allI (gEdge t) t.edges = true := allI_true fun j d hd => hno j d (by have := (List.getElem?_eq_some_iff.1 hd).1; omega) hd
  rw [a3, Bool.true_and]
  clear h1 hno hi
  (refine zGo ?_)
  refine pw_for hD (fun i : Nat => [(156, .int .i64 i)]) (fun _ => [.box (eTopo t).cells]) (fun i => i ≤ t.pools.length ∧ ∀ (j : Nat) d, j < i → t.pools[j]? = some d → gPool t j d = true) (fun i => t.pools.length - i) 0 ⟨by omega, by intro j d h; omega⟩ 1 rfl (fun _ => rfl) (by (exact zLes)) (fun _ => rfl) (fun _ => rfl) (by (exact zLe)) ?_
  rintro i ⟨hi, hno⟩
  (refine zGo ?_)
  refine pw_cond rfl (fun h1 => ?_) (fun h1 => ?_)
  · simp only [decide_eq_true_eq, List.length_map] at h1
    have hlt : i < t.pools.length := by omega
    (refine zGo ?_)
    (refine pl_op rfl (op_of (v_index (p := ePfx t.pools[i]) hT rfl rfl rfl rfl (by omega) (by simp [hlt]) rfl) ?_); (refine zNp ?_))
    (refine zGo ?_)
    (refine pl_op rfl (op_fun (c45 t.pools[i]) rfl rfl e45 zLe rfl (fun r hr => ?_)); subst hr; refine ⟨rfl, ?_⟩; (refine zNp ?_))
    (refine zGo ?_)
    have hsm : Small (t.pools.take i) := by unfold Small; have := List.length_take_le i t.pools; omega
    (refine pl_or 7 164 171 ((t.pools.take i).any (pover t.pools[i])) rfl rfl rfl (fun hb => ?_) (fun hb => ?_) ?_; (focus ((refine zNp ?_); (refine zGo ?_); exact ⟨by (exact zLe), StLe.refl _⟩)); (focus ((refine zNp ?_); (refine zGo ?_); (refine zGo ?_); (refine pl_on rfl rfl (op_of (v_takeM (m := i) hT rfl rfl rfl rfl (by omega) (fun _ => rfl)) ?_); (refine zNp ?_)); (refine zGo ?_); (refine pl_on rfl rfl (op_call [1] rfl rfl e46 (by decide) rfl rfl rfl zLe zLes (c46 e47 (by rfl) hsm fun x _ => c47 t.pools[i] x) (fun r s hq => ?_)); obtain ⟨rfl, rfl⟩ := hq; refine ⟨rfl, rfl, ?_⟩; (refine zNp ?_)); (refine zGo ?_); exact ⟨by (exact zLe), StLe.refl _⟩)); (refine zNp ?_); (refine zGo ?_))
    refine pw_cond rfl (fun h2 => ?_) (fun h2 => ?_)
    · (refine zGo ?_)
      refine ret1 _ rfl ?_ rfl
      rw [allI_false hlt (by rw [gPool, h2]; rfl)]
    · (refine zGo ?_)
      refine ⟨i + 1, ⟨by omega, fun j d hj hd => ?_⟩, by omega, by (exact zLe), by (exact zLes)⟩
      rcases Nat.lt_succ_iff_lt_or_eq.1 hj with hj | rfl
      · exact hno j d hj hd
      · rw [List.getElem?_eq_getElem hlt] at hd; cases hd
        rw [gPool, h2]; rfl
  simp only [decide_eq_false_iff_not, List.length_map] at h1
  have a4 : allI (gPool t) t.pools = true := allI_true fun j d hd => hno j d (by have := (List.getElem?_eq_some_iff.1 hd).1; omega) hd
  rw [a4]
  (refine zGo ?_)
  refine ret1 _ rfl rfl rfl
def tComplete (t : Topo) : Bool := tValid t && !t.edges.any (fun e => e.planned)
theorem c39 (t : Topo) : PFun Tryz.prog Gl 39 [eTopo t] fun r => r = .bool (tComplete t) := by
  refine PFun.of hT Tryz.func39 rfl fun B hD => ?_
  refine pw_norm rfl ?_
  (refine zGo ?_)
  (refine pl_op rfl (op_fun (c20 t) rfl rfl e20 zLe rfl (fun r hr => ?_)); subst hr; refine ⟨rfl, ?_⟩; (refine zNp ?_))
  (refine zGo ?_)
  (refine pl_and 5 5 10 (!t.edges.any (fun e => e.planned)) rfl rfl rfl (fun hb => ?_) (fun hb => ?_) ?_; (focus ((refine zNp ?_); (refine zGo ?_); have se : Small t.edges := (by have hb' := hb; simp only [tValid, vHead, Bool.and_eq_true, Bool.not_eq_true', Bool.or_eq_false_iff, decide_eq_false_iff_not] at hb'; unfold Small; omega); (refine zGo ?_); (refine pl_on rfl rfl (op_fun (c83n e84 se fun x _ => c84 x) rfl rfl e83 zLe rfl (fun r hr => ?_)); subst hr; refine ⟨rfl, ?_⟩; (refine zNp ?_)); (refine zGo ?_); exact ⟨by (exact zLe), StLe.refl _⟩)); (focus ((refine zNp ?_); (refine zGo ?_); exact ⟨by (exact zLe), StLe.refl _⟩)); (refine zNp ?_); (refine zGo ?_))
  refine ret1 _ rfl rfl rfl
end Go.Proofs.YtdehdgbdcfkpbaaGreatDoor
namespace Go.Proofs.YtdehdgbdcfkpbaaGreatDoor
open Go Go.Pw
def sane1 : Str := [100, 101, 118, 105, 99, 101, 32, 114, 32, 99, 97, 112, 97, 99, 105, 116, 121, 32, 49, 48, 48, 10, 100, 101, 118, 105, 99, 101, 32, 115, 32, 99, 97, 112, 97, 99, 105, 116, 121, 32, 53, 48, 32, 114, 97, 110, 103, 101, 115, 32, 99, 108, 97, 115, 115, 32, 105, 112, 115, 10, 108, 105, 110, 107, 32, 115, 32, 114, 32, 99, 111, 115, 116, 32, 51, 10, 101, 100, 103, 101, 32, 97, 32, 97, 116, 32, 115, 32, 122, 111, 110, 101, 32, 122, 32, 115, 117, 98, 110, 101, 116, 32, 49, 48, 46, 48, 46, 48, 46, 48, 47, 56]
def sane2 : Str := [100, 101, 118, 105, 99, 101, 32, 114, 32, 99, 97, 112, 97, 99, 105, 116, 121, 32, 49, 10, 116, 111, 108, 101, 114, 97, 116, 101, 32, 51]
def saneT : Topo := ⟨[⟨[114], 100, false, false, []⟩, ⟨[115], 50, true, false, [105, 112, 115]⟩], [⟨0, 1, 3⟩], [⟨[97], 1, [122], ⟨167772160, 8⟩, false⟩], [], 0⟩
theorem sane1_is : tParse sane1 = (saneT, 0, 0) := by kernel_rfl
theorem sane2_is : tParse sane2 = (topo0, 2, 2) := by kernel_rfl
theorem saneT_complete : tComplete saneT = true := by kernel_rfl
theorem saneT_at : tAt saneT 167772165 = 0 := by kernel_rfl
end Go.Proofs.YtdehdgbdcfkpbaaGreatDoor
namespace Go.Proofs.YtdehdgbdcfkpbaaGreatDoor
open Go Go.Pw
theorem sub_le (s : Str) (a b : Nat) : (sub s a b).length ≤ s.length := by
  unfold sub; simp; omega
theorem endW_each {s : Str} {out : List Str} {st : Option Nat} {n : Nat} (h : ∀ x ∈ out, x.length ≤ s.length) : ∀ x ∈ endW s out st n, x.length ≤ s.length := by
  intro x hx
  unfold endW at hx
  split at hx
  · rcases List.mem_append.1 hx with hx | hx
    · exact h x hx
    · rw [List.mem_singleton] at hx; subst hx; exact sub_le _ _ _
  · exact h x hx
theorem wrun_each (s : Str) : ∀ (n i : Nat) (out : List Str) (st : Option Nat), (∀ x ∈ out, x.length ≤ s.length) → ∀ x ∈ wrun s n i out st, x.length ≤ s.length
  | 0, i, out, st, h => endW_each h
  | n + 1, i, out, st, h => by
    rw [wrun]
    split
    · exact endW_each h
    · split
      · exact endW_each h
      · split
        · exact wrun_each s n _ _ _ (endW_each h)
        · split
          · refine wrun_each s n _ _ _ fun x hx => ?_
            rcases List.mem_append.1 hx with hx | hx
            · exact endW_each h x hx
            · rw [List.mem_singleton] at hx; subst hx; exact sub_le _ _ _
          · exact wrun_each s n _ _ _ h
theorem words_each (s : Str) : ∀ x ∈ words s, x.length ≤ s.length := wrun_each s _ _ _ _ (by simp)
theorem lrun_ok (N : Nat) (hN : N ≤ 16384) : ∀ (ls : List Str) (i : Nat) (out : List TLine), (∀ p ∈ ls, p.length ≤ N) → (∀ x ∈ out, 0 < x.words.length ∧ WOk x.words) →
    (∀ x ∈ (lrun ls i out).1, 0 < x.words.length ∧ WOk x.words) ∧ (lrun ls i out).1.length ≤ out.length + ls.length
  | [], i, out, _, ho => ⟨ho, by simp [lrun]⟩
  | l :: ls, i, out, hp, ho => by
    rw [lrun]
    have hl := hp l (List.mem_cons_self ..)
    have hp' : ∀ p ∈ ls, p.length ≤ N := fun p h => hp p (List.mem_cons_of_mem _ h)
    split
    · exact ⟨by simp, by simp⟩
    · split
      · exact ⟨by simp, by simp⟩
      · rename_i h64
        split
        · rename_i hpos
          have h1 := lrun_ok N hN ls (i + 1) (out ++ [⟨(i : Int) + 1, words l⟩]) hp' (fun x hx => by
            rcases List.mem_append.1 hx with hx | hx
            · exact ho x hx
            · rw [List.mem_singleton] at hx; subst hx
              refine ⟨by simp at hpos; show 0 < (words l).length; omega, ⟨by simp at h64; unfold Small; show (words l).length < _; omega, fun w hw => ?_⟩⟩
              have := words_each l w hw
              omega)
          refine ⟨h1.1, ?_⟩
          have := h1.2
          simp at this ⊢
          omega
        · have h1 := lrun_ok N hN ls (i + 1) out hp' ho
          refine ⟨h1.1, ?_⟩
          have := h1.2
          simp at this ⊢
          omega
theorem lines_ok (s : Str) : LOk (lines s).1 := by
  unfold lines
  split
  · exact ⟨by simp, by simp, by simp⟩
  · rename_i h
    simp only [decide_eq_true_eq] at h
    have h1 := lrun_ok s.length (by omega) (splitAt 10 s) 0 [] (fun p hp => splitAt_size hp) (by simp)
    refine ⟨fun x hx => (h1.1 x hx).1, fun x hx => (h1.1 x hx).2, ?_⟩
    have h2 := h1.2
    rw [splitAt_len] at h2
    have := List.count_le_length (a := (10 : UInt8)) (l := s)
    simp at h2
    omega
end Go.Proofs.YtdehdgbdcfkpbaaGreatDoor
