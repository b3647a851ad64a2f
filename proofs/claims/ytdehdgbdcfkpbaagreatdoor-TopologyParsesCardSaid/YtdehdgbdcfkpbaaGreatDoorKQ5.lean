/-
  Plain laws: generated topologies are valid; the places of the lines of pools and of tolerate do not matter.
-/
import Derived.Test.YtdehdgbdcfkpbaaGreatDoorKQ4
import Derived.Test.YtdehdgbdcfkpbaaGreatDoorKC6
namespace Go.Proofs.YtdehdgbdcfkpbaaGreatDoor
open Go Go.Pw

/-! ### generated topologies are valid -/
theorem names6_ok : ∀ i : Fin 6, vname (names6.getD i.val []) = true ∧ ∀ j : Fin 6, j < i → (names6.getD j.val [] == names6.getD i.val []) = false := by decide +kernel
theorem names5_ok : ∀ i : Fin 5, vname (names5.getD i.val []) = true ∧ ∀ j : Fin 5, j < i → (names5.getD j.val [] == names5.getD i.val []) = false := by decide +kernel
theorem subnets_ok : ∀ i : Fin 5, (rvalid (subnets.getD i.val ⟨0, 0⟩) = true ∧ 1 ≤ (subnets.getD i.val ⟨0, 0⟩).bits) ∧ ∀ j : Fin 5, j < i → pover (subnets.getD i.val ⟨0, 0⟩) (subnets.getD j.val ⟨0, 0⟩) = false := by decide +kernel
theorem caps_ok : ∀ c ∈ caps6, 0 ≤ c ∧ c ≤ 4096 := by decide
theorem cls_ok : ∀ c ∈ cls3, c = [] ∨ vname c = true := by decide +kernel
theorem costs_ok : ∀ c ∈ costs4, 1 ≤ c ∧ c ≤ 1000 := by decide
theorem zones_ok : ∀ z ∈ zones3, vname z = true := by decide +kernel
theorem tol_ok : ∀ z ∈ tol5, 0 ≤ z ∧ z ≤ 2 := by decide
theorem pools_ok (l : List TPfx) (h : l = [] ∨ l = [pool1] ∨ l = [pool2] ∨ l = [pool1, pool2]) : allI (rvPool l) l = true ∧ l.length ≤ 8 := by
  rcases h with rfl | rfl | rfl | rfl <;> decide +kernel
theorem subnet_in (i : Nat) : PfxIn (subnets.getD i ⟨0, 0⟩) := by
  rw [List.getD]
  cases h : subnets[i]? with
  | none => exact ⟨by decide, by decide⟩
  | some p => exact subnets_in (List.mem_of_getElem? h)
theorem TGen.pin {n : Nat} {t : Topo} (h : TGen n t) : PIn t := by
  refine ⟨fun e he => ?_, ?_⟩
  · obtain ⟨i, hi⟩ := List.mem_iff_getElem?.1 he
    rw [(h.edges i e hi).pfx]
    exact subnet_in i
  · intro p hp
    rcases h.pools with h2 | h2 | h2 | h2 <;> rw [h2] at hp <;> simp at hp
    · rw [hp]; exact ⟨by decide, by decide⟩
    · rw [hp]; exact ⟨by decide, by decide⟩
    · rcases hp with hp | hp <;> rw [hp] <;> exact ⟨by decide, by decide⟩
theorem TGen.dev_lt {n : Nat} {t : Topo} (h : TGen n t) {i : Nat} {d : TDev} (hd : t.devs[i]? = some d) : i < 6 := by
  have := (List.getElem?_eq_some_iff.1 hd).1
  have := h.dl
  have := h.n6
  omega
theorem TGen.edge_lt {n : Nat} {t : Topo} (h : TGen n t) {i : Nat} {e : TEdge} (he : t.edges[i]? = some e) : i < 5 := by
  have := (List.getElem?_eq_some_iff.1 he).1
  have := h.el
  omega
theorem TGen.valid {n : Nat} {t : Topo} (h : TGen n t) : rValid t = true := by
  have h1 := h.n1
  have h6 := h.n6
  have hdl := h.dl
  have hll := h.ll
  have hel := h.el
  have htol := tol_ok _ h.tol
  obtain ⟨hp1, hp2⟩ := pools_ok t.pools h.pools
  have hdev : rvDevs t.devs = true := by
    unfold rvDevs
    rw [decide_eq_false (show ¬ (t.devs.length : Int) < 1 by omega), decide_eq_false (show ¬ (t.devs.length : Int) > 12 by omega)]
    rw [show allI (rvDev t.devs) t.devs = true from allI_true fun i d hd => ?_]
    · rfl
    · have hi := h.dev_lt hd
      have hg := h.devs i d hd
      obtain ⟨a1, a2⟩ := names6_ok ⟨i, hi⟩
      have hc := caps_ok _ hg.cap
      have ht : tDevice ⟨t.devs, [], [], [], 0⟩ d.name = (i : Int) := by
        obtain ⟨hlt, he⟩ := List.getElem?_eq_some_iff.1 hd
        refine firstAt_hit (l := t.devs) hlt (by rw [he]; simp) fun j x hj hx => ?_
        rw [(h.devs j x hx).name, hg.name]
        exact a2 ⟨j, by omega⟩ hj
      unfold rvDev
      rw [ht, hg.name]
      simp only at a1
      rw [a1, decide_eq_false (show ¬ d.cap < 0 by omega), decide_eq_false (show ¬ d.cap > 4096 by omega)]
      rcases cls_ok _ hg.cls with h2 | h2
      · rw [h2]; simp
      · rw [h2]; simp
  unfold rValid rvHead
  rw [hdev, decide_eq_false (show ¬ (t.links.length : Int) > 24 by omega), decide_eq_false (show ¬ (t.edges.length : Int) > 12 by omega), decide_eq_false (show ¬ (t.pools.length : Int) > 8 by omega), decide_eq_false (show ¬ t.tol < 0 by omega), decide_eq_false (show ¬ t.tol > 2 by omega), hp1]
  have hlink : t.links.all (rvLink t) = true := List.all_eq_true.2 fun l hl => by
    have hg := h.links l hl
    have h2 := hg.a0
    have h3 := hg.ab
    have h4 := hg.bn
    have hc := costs_ok _ hg.cost
    unfold rvLink
    rw [decide_eq_false (show ¬ l.a < 0 by omega), decide_eq_false (show ¬ l.b ≤ l.a by omega), decide_eq_false (show ¬ l.b ≥ t.devs.length by omega), decide_eq_false (show ¬ l.cost < 1 by omega), decide_eq_false (show ¬ l.cost > 1000 by omega)]
    rfl
  have hedge : allI (rvEdgeI t) t.edges = true := allI_true fun i e he => by
    have hi := h.edge_lt he
    have hg := h.edges i e he
    have h2 := hg.d0
    have h3 := hg.dn
    obtain ⟨a1, a2⟩ := names5_ok ⟨i, hi⟩
    obtain ⟨⟨b1, b2⟩, _⟩ := subnets_ok ⟨i, hi⟩
    have ht : tEdge t e.name = (i : Int) := by
      obtain ⟨hlt, hee⟩ := List.getElem?_eq_some_iff.1 he
      refine firstAt_hit (l := t.edges) hlt (by rw [hee]; simp) fun j x hj hx => ?_
      rw [(h.edges j x hx).name, hg.name]
      exact a2 ⟨j, by omega⟩ hj
    unfold rvEdgeI rvEdge
    rw [ht, hg.name, hg.planned, hg.pfx, zones_ok _ hg.zone]
    simp only at a1 b1 b2
    rw [a1, b1, decide_eq_false (show ¬ e.dev < 0 by omega), decide_eq_false (show ¬ e.dev ≥ t.devs.length by omega), decide_eq_false (show ¬ (subnets.getD i ⟨0, 0⟩).bits < 1 by omega)]
    simp
  have hfix : allI (rvMeet (fixed t.edges)) (fixed t.edges) = true := by
    rw [fixed_pairs h.pin.edges]
    refine allI_true fun i e he => List.all_eq_true.2 fun o ho => ?_
    obtain ⟨j, hj⟩ := List.mem_iff_getElem?.1 ho
    rw [List.getElem?_take] at hj
    split at hj
    · rename_i hji
      have hi := h.edge_lt he
      obtain ⟨_, b3⟩ := subnets_ok ⟨i, hi⟩
      have := b3 ⟨j, by omega⟩ hji
      unfold gMeet
      rw [(h.edges i e he).pfx, (h.edges j o hj).pfx]
      simp only at this
      rw [this]; simp
    · cases hj
  rw [hlink, hedge, hfix]
  rfl
/-! ### lines put forward -/
/-- a has some of those elements of l that have q, b the others, both in l's order. -/
inductive Sel {α : Type} (q : α → Bool) : List α → List α → List α → Prop
  | nil : Sel q [] [] []
  | fst {l a b : List α} (x : α) : Sel q l a b → q x = true → Sel q (l ++ [x]) (a ++ [x]) b
  | snd {l a b : List α} (x : α) : Sel q l a b → Sel q (l ++ [x]) a (b ++ [x])
theorem snoc_split {α : Type} {l1 l2 l : List α} {x : α} (h : l ++ [x] = l1 ++ l2) : (l2 = [] ∧ l1 = l ++ [x]) ∨ ∃ m, l2 = m ++ [x] ∧ l = l1 ++ m := by
  rcases List.eq_nil_or_concat l2 with h2 | ⟨m, y, h2⟩
  · subst h2; exact .inl ⟨rfl, by simpa using h.symm⟩
  · rw [List.concat_eq_append] at h2
    subst h2
    rw [← List.append_assoc] at h
    obtain ⟨h3, h4⟩ := List.append_inj' h rfl
    cases h4
    exact .inr ⟨m, rfl, h3⟩
theorem Sel.split {α : Type} {q : α → Bool} {l a b : List α} (h : Sel q l a b) : ∀ (l1 l2 : List α), l = l1 ++ l2 → ∃ a1 a2 b1 b2, a = a1 ++ a2 ∧ b = b1 ++ b2 ∧ Sel q l1 a1 b1 ∧ Sel q l2 a2 b2 := by
  induction h with
  | nil =>
    intro l1 l2 e
    obtain ⟨rfl, rfl⟩ := List.append_eq_nil_iff.1 e.symm
    exact ⟨[], [], [], [], rfl, rfl, .nil, .nil⟩
  | @fst l a b x h hq ih =>
    intro l1 l2 e
    rcases snoc_split e with ⟨rfl, rfl⟩ | ⟨m, rfl, e2⟩
    · exact ⟨a ++ [x], [], b, [], by simp, by simp, .fst x h hq, .nil⟩
    · obtain ⟨a1, a2, b1, b2, rfl, rfl, h1, h2⟩ := ih l1 m e2
      exact ⟨a1, a2 ++ [x], b1, b2, by simp, rfl, h1, .fst x h2 hq⟩
  | @snd l a b x h ih =>
    intro l1 l2 e
    rcases snoc_split e with ⟨rfl, rfl⟩ | ⟨m, rfl, e2⟩
    · exact ⟨a, [], b ++ [x], [], by simp, by simp, .snd x h, .nil⟩
    · obtain ⟨a1, a2, b1, b2, rfl, rfl, h1, h2⟩ := ih l1 m e2
      exact ⟨a1, a2, b1, b2 ++ [x], rfl, by simp, h1, .snd x h2⟩
theorem Sel.none {α : Type} {q : α → Bool} {l a b : List α} (h : Sel q l a b) : (∀ x ∈ l, q x = false) → a = [] ∧ b = l := by
  induction h with
  | nil => intro _; exact ⟨rfl, rfl⟩
  | @fst l a b x h hq ih =>
    intro hn
    rw [hn x (by simp)] at hq
    cases hq
  | @snd l a b x h ih =>
    intro hn
    obtain ⟨rfl, rfl⟩ := ih fun y hy => hn y (by simp [hy])
    exact ⟨rfl, rfl⟩
theorem Sel.perm {α : Type} {q : α → Bool} {l a b : List α} (h : Sel q l a b) : (a ++ b).Perm l := by
  induction h with
  | nil => exact List.Perm.refl _
  | @fst l a b x h hq ih =>
    have e : a ++ [x] ++ b = a ++ x :: b := by simp
    rw [e]
    exact (List.perm_middle.trans (ih.cons x)).trans (List.perm_append_singleton x l).symm
  | @snd l a b x h ih =>
    rw [← List.append_assoc]
    exact ih.append_right [x]
theorem Sel.unmap {α β : Type} {q : β → Bool} (f : α → β) {l : List β} {a b : List β} (h : Sel q l a b) : ∀ (k : List α), l = k.map f → ∃ k1 k2, a = k1.map f ∧ b = k2.map f ∧ Sel (fun x => q (f x)) k k1 k2 := by
  induction h with
  | nil =>
    intro k e
    have : k = [] := List.map_eq_nil_iff.1 e.symm
    subst this
    exact ⟨[], [], rfl, rfl, .nil⟩
  | @fst l a b x h hq ih =>
    intro k e
    rcases List.eq_nil_or_concat k with h2 | ⟨m, y, h2⟩
    · subst h2; simp at e
    · rw [List.concat_eq_append] at h2
      subst h2
      rw [List.map_append] at e
      obtain ⟨e1, e2⟩ := List.append_inj' e rfl
      cases e2
      obtain ⟨k1, k2, rfl, rfl, h3⟩ := ih m e1
      exact ⟨k1 ++ [y], k2, by simp, rfl, .fst y h3 hq⟩
  | @snd l a b x h ih =>
    intro k e
    rcases List.eq_nil_or_concat k with h2 | ⟨m, y, h2⟩
    · subst h2; simp at e
    · rw [List.concat_eq_append] at h2
      subst h2
      rw [List.map_append] at e
      obtain ⟨e1, e2⟩ := List.append_inj' e rfl
      cases e2
      obtain ⟨k1, k2, rfl, rfl, h3⟩ := ih m e1
      exact ⟨k1, k2 ++ [y], rfl, by simp, .snd y h3⟩
theorem Sel.one {α : Type} {q : α → Bool} {x : α} {l a b : List α} (h : Sel q l a b) (e : l = [x]) : (a = [x] ∧ b = []) ∨ (a = [] ∧ b = [x]) := by
  cases h with
  | nil => cases e
  | @fst l a b y h hq =>
    obtain ⟨e1, e2⟩ := List.append_inj' (show l ++ [y] = [] ++ [x] from e) rfl
    subst e1; cases e2
    obtain ⟨rfl, rfl⟩ := h.none fun z hz => by cases hz
    exact .inl ⟨rfl, rfl⟩
  | @snd l a b y h =>
    obtain ⟨e1, e2⟩ := List.append_inj' (show l ++ [y] = [] ++ [x] from e) rfl
    subst e1; cases e2
    obtain ⟨rfl, rfl⟩ := h.none fun z hz => by cases hz
    exact .inr ⟨rfl, rfl⟩
/-- Lines of pools and of tolerate. -/
def isPT (w : List Str) : Bool := (w.getD 0 [] == kPool) || (w.getD 0 [] == kTol)
theorem fDev_pt (d : TDev) : isPT (fDev' d) = false := by
  unfold isPT
  rw [(fDev_parts d).1.1]; decide
theorem head_pt (T : Topo) : ∀ w ∈ (T.devs.map fDev' ++ T.links.map (fLink' T)) ++ T.edges.map (fEdge' T), isPT w = false := by
  intro w hw
  simp only [List.mem_append, List.mem_map] at hw
  rcases hw with (⟨d, _, rfl⟩ | ⟨l, _, rfl⟩) | ⟨e, _, rfl⟩
  · exact fDev_pt d
  · show ((kLink == kPool) || (kLink == kTol)) = false; decide
  · show ((kEdge == kPool) || (kEdge == kTol)) = false; decide
/-- What lines of a valid topology, some of pools and of tolerate put forward, are parsed as. -/
theorem pW_order {T : Topo} (hv : rValid T = true) (hin : PIn T) {a b : List (List Str)} (hs : Sel isPT ((fLines T).map TLine.words) a b) : ∃ ps, ps.Perm T.pools ∧ pW (a ++ b) topo0 false = some ({ T with pools := ps }, true) := by
  have h := rValid_rv hv
  have htv : tValid T = true := by rw [← rValid_eq T ⟨hin.edges, hin.pools⟩]; exact hv
  rw [fLines_words] at hs
  obtain ⟨a1, at_, b1, bt, rfl, rfl, hs1, hst⟩ := hs.split _ _ rfl
  obtain ⟨a2, ap, b2, bp, rfl, rfl, hs2, hsp⟩ := hs1.split _ _ rfl
  obtain ⟨rfl, rfl⟩ := hs2.none (head_pt T)
  obtain ⟨p1, p2, rfl, rfl, hpp⟩ := hsp.unmap fPool' T.pools rfl
  have hperm := hpp.perm
  have hap : Apart (p1 ++ p2) := (hperm.pairwise_iff (fun {x y} hxy => by rw [pover_comm]; exact hxy)).2 (pools_apart htv)
  have hlen : (p1 ++ p2).length ≤ 8 := by rw [hperm.length_eq]; exact h.p2
  have hpi : ∀ p ∈ p1 ++ p2, PfxIn p ∧ rvalid p = true := fun p hp => by
    have := hperm.mem_iff.1 hp
    exact ⟨hin.pools p this, h.ptop this⟩
  refine ⟨p1 ++ p2, hperm, ?_⟩
  have q1 : Apart p1 := (List.pairwise_append.1 hap).1
  have s0 := pPools topo0 false p1 [] (fun p hp => hpi p (List.mem_append_left _ hp)) (by simpa using q1) (by simp at hlen ⊢; omega)
  have s0' : pW (p1.map fPool') topo0 false = some ({ topo0 with pools := p1 }, false) := s0
  have tail : ∀ (tol : Int) (told : Bool), pW ((T.devs.map fDev' ++ T.links.map (fLink' T)) ++ T.edges.map (fEdge' T) ++ p2.map fPool') ⟨[], [], [], p1, tol⟩ told = some (⟨T.devs, T.links, T.edges, p1 ++ p2, tol⟩, told) := by
    intro tol told
    have s1 := pDevs h ⟨[], [], [], p1, tol⟩ told T.devs [] rfl
    have s2 := pLinks h ⟨T.devs, [], [], p1, tol⟩ told rfl T.links [] rfl
    have s3 := pEdges htv h hin ⟨T.devs, T.links, [], p1, tol⟩ told rfl T.edges [] rfl
    have s4 := pPools ⟨T.devs, T.links, T.edges, p1, tol⟩ told p2 p1 (fun p hp => hpi p (List.mem_append_right _ hp)) hap hlen
    rw [pW_append, pW_append, pW_append]
    have e1 : pW (T.devs.map fDev') ⟨[], [], [], p1, tol⟩ told = some (⟨T.devs, [], [], p1, tol⟩, told) := s1
    rw [e1, Option.bind_some]
    have e2 : pW (T.links.map (fLink' T)) ⟨T.devs, [], [], p1, tol⟩ told = some (⟨T.devs, T.links, [], p1, tol⟩, told) := s2
    rw [e2, Option.bind_some]
    have e3 : pW (T.edges.map (fEdge' T)) ⟨T.devs, T.links, [], p1, tol⟩ told = some (⟨T.devs, T.links, T.edges, p1, tol⟩, told) := s3
    rw [e3, Option.bind_some]
    exact s4
  have tol1 : ∀ t : Topo, pW [fTol' T] t false = some ({ t with tol := T.tol }, true) := fun t => (pW_cons (ws := []) (pTol_step T.tol h.tol t)).trans rfl
  rcases hst.one rfl with ⟨rfl, rfl⟩ | ⟨rfl, rfl⟩
  · have e : ([] ++ List.map fPool' p1 ++ [fTol' T]) ++ ((T.devs.map fDev' ++ T.links.map (fLink' T)) ++ T.edges.map (fEdge' T) ++ p2.map fPool' ++ []) = p1.map fPool' ++ ([fTol' T] ++ ((T.devs.map fDev' ++ T.links.map (fLink' T)) ++ T.edges.map (fEdge' T) ++ p2.map fPool')) := by simp
    rw [e, pW_append, s0', Option.bind_some]
    show pW ([fTol' T] ++ _) { topo0 with pools := p1 } false = _
    rw [pW_append, tol1, Option.bind_some]
    exact tail T.tol true
  · have e : ([] ++ List.map fPool' p1 ++ []) ++ ((T.devs.map fDev' ++ T.links.map (fLink' T)) ++ T.edges.map (fEdge' T) ++ p2.map fPool' ++ [fTol' T]) = p1.map fPool' ++ (((T.devs.map fDev' ++ T.links.map (fLink' T)) ++ T.edges.map (fEdge' T) ++ p2.map fPool') ++ [fTol' T]) := by simp
    rw [e, pW_append, s0', Option.bind_some]
    show pW (_ ++ [fTol' T]) { topo0 with pools := p1 } false = _
    have := tail 0 false
    rw [pW_append]
    have e5 : pW ((T.devs.map fDev' ++ T.links.map (fLink' T)) ++ T.edges.map (fEdge' T) ++ p2.map fPool') { topo0 with pools := p1 } false = some (⟨T.devs, T.links, T.edges, p1 ++ p2, 0⟩, false) := this
    rw [e5, Option.bind_some, tol1]
theorem Sel.mem {α : Type} {q : α → Bool} {l a b : List α} (h : Sel q l a b) : ∀ x ∈ a ++ b, x ∈ l := fun _ hx => h.perm.mem_iff.1 hx
/-- The same for lists of lines. -/
theorem tParse_order {T : Topo} (hv : rValid T = true) (hin : PIn T) {a b : List TLine} (hs : Sel isPT ((fLines T).map TLine.words) (a.map TLine.words) (b.map TLine.words)) : ∃ ps, ps.Perm T.pools ∧ tParse (textS (a ++ b)) = ({ T with pools := ps }, 0, 0) := by
  have h := rValid_rv hv
  obtain ⟨ps, hp, hw⟩ := pW_order hv hin hs
  have hmem : ∀ x ∈ a ++ b, ∃ y ∈ fLines T, y.words = x.words := fun x hx => by
    have : x.words ∈ (fLines T).map TLine.words := hs.mem _ (by rw [← List.map_append]; exact List.mem_map_of_mem hx)
    exact List.mem_map.1 this
  have hg := fLines_good h
  have hgood : LGood (a ++ b) := ⟨fun x hx => by obtain ⟨y, hy, e⟩ := hmem x hx; rw [← e]; exact hg.some y hy, fun x hx => by obtain ⟨y, hy, e⟩ := hmem x hx; rw [← e]; exact hg.few y hy, fun x hx => by obtain ⟨y, hy, e⟩ := hmem x hx; rw [← e]; exact hg.good y hy⟩
  have hlen : (a ++ b).length = (fLines T).length := by
    have := hs.perm.length_eq
    rw [← List.map_append, List.length_map, List.length_map] at this
    exact this
  have h1 := textS_len (a ++ b) (fun x hx => by obtain ⟨y, hy, e⟩ := hmem x hx; rw [← e]; exact fLines_le h y hy)
  have h2 := fLines_len h
  exact ⟨ps, hp, tParse_text hgood (by omega) (by rw [List.map_append]; exact hw) h.d1⟩
theorem valid_pools {T : Topo} (hv : rValid T = true) (hin : PIn T) {ps : List TPfx} (hp : ps.Perm T.pools) : rValid { T with pools := ps } = true := by
  have h := rValid_rv hv
  have htv : tValid T = true := by rw [← rValid_eq T ⟨hin.edges, hin.pools⟩]; exact hv
  have hap : Apart ps := (hp.pairwise_iff (fun {x y} hxy => by rw [pover_comm]; exact hxy)).2 (pools_apart htv)
  have hpi : ∀ p ∈ ps, PfxIn p ∧ rvalid p = true := fun p hp' => by
    have := hp.mem_iff.1 hp'
    exact ⟨hin.pools p this, h.ptop this⟩
  have h5 : allI (rvPool ps) ps = true := allI_true fun i p hx => by
    unfold rvPool
    obtain ⟨hi, rfl⟩ := List.getElem?_eq_some_iff.1 hx
    rw [(hpi _ (List.getElem_mem hi)).2]
    have : (ps.take i).any (rmeet ps[i]) = false := by
      rw [List.any_eq_false]
      intro q hq
      obtain ⟨j, hj⟩ := List.mem_iff_getElem?.1 hq
      rw [List.getElem?_take] at hj
      split at hj
      · rename_i hji
        obtain ⟨hjl, rfl⟩ := List.getElem?_eq_some_iff.1 hj
        have := (List.pairwise_iff_getElem.1 hap) j i hjl hi hji
        rw [meet_eq _ _ (hpi _ (List.getElem_mem hi)).1 (hpi _ (List.getElem_mem hjl)).1, pover_comm, this]
        exact Bool.false_ne_true
      · cases hj
    rw [this]; rfl
  unfold rValid at hv ⊢
  simp only [Bool.and_eq_true] at hv ⊢
  obtain ⟨a1, a2, a3, a4, a5⟩ := hv
  refine ⟨?_, a2, a3, a4, h5⟩
  unfold rvHead at a1 ⊢
  show (!(((((!rvDevs T.devs || _) || _) || decide ((ps.length : Int) > 8)) || _) || _)) = true
  rw [hp.length_eq]
  exact a1
end Go.Proofs.YtdehdgbdcfkpbaaGreatDoor
