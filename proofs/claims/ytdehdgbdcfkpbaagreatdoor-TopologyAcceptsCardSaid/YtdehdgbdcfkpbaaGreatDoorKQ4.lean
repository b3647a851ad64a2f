/-
  Plain laws of a topology's lines: the parser reads them back.
-/
import Derived.Test.YtdehdgbdcfkpbaaGreatDoorKQ2
namespace Go.Proofs.YtdehdgbdcfkpbaaGreatDoor
open Go Go.Pw

/-! ### lines, one after another, without errors -/
def pW : List (List Str) → Topo → Bool → Option (Topo × Bool)
  | [], t, told => some (t, told)
  | w :: ws, t, told => if (pLine t told w).1 = 0 then pW ws (pLine t told w).2.1 (pLine t told w).2.2 else none
theorem pW_cons {w : List Str} {ws : List (List Str)} {t t' : Topo} {told told' : Bool} (h : pLine t told w = (0, t', told')) : pW (w :: ws) t told = pW ws t' told' := by
  rw [pW, h]; rfl
theorem pW_append : ∀ (a b : List (List Str)) (t : Topo) (told : Bool), pW (a ++ b) t told = (pW a t told).bind fun x => pW b x.1 x.2
  | [], b, t, told => rfl
  | w :: a, b, t, told => by
    rw [List.cons_append, pW, pW]
    split
    · exact pW_append a b _ _
    · rfl
theorem pRun_pW : ∀ (ls : List TLine) (t t' : Topo) (told told' : Bool), pW (ls.map TLine.words) t told = some (t', told') → pRun ls t told = (0, 0, t')
  | [], t, t', told, told', h => by cases h; rfl
  | l :: ls, t, t', told, told', h => by
    rw [List.map_cons, pW] at h
    split at h
    · rename_i h0
      rw [pRun, h0]
      exact pRun_pW ls _ _ _ _ h
    · cases h
/-! ### where a name stands first -/
theorem firstAt_before {α : Type} {p : α → Bool} {l : List α} {i : Nat} (h : firstAt p l = (i : Int)) : ∀ (j : Nat) x, j < i → l[j]? = some x → p x = false := by
  unfold firstAt at h
  cases hf : l.findIdx? p with
  | none => rw [hf] at h; have : (-1 : Int) = (i : Int) := h; omega
  | some k =>
    rw [hf] at h
    have hk : k = i := by have h' : (k : Int) = (i : Int) := h; omega
    subst hk
    rw [List.findIdx?_eq_some_iff_getElem] at hf
    obtain ⟨hk, _, h0⟩ := hf
    intro j x hj hx
    have := h0 j hj
    have e := List.getElem?_eq_getElem (show j < l.length by omega)
    rw [hx] at e
    cases e
    simpa using this
theorem firstAt_done {α : Type} {p : α → Bool} {l : List α} {i : Nat} (h : firstAt p l = (i : Int)) : firstAt p (l.take i) = -1 := by
  refine firstAt_miss fun j x hx => ?_
  rw [List.getElem?_take] at hx
  split at hx
  · rename_i hj
    exact firstAt_before h j x hj hx
  · cases hx
theorem pLine_link {t : Topo} {told : Bool} {w : List Str} (h : w.getD 0 [] = kLink) : pLine t told w = pLink t told w := by
  unfold pLine
  rw [h, if_neg (by decide), if_pos rfl]
theorem pLine_edge {t : Topo} {told : Bool} {w : List Str} (h : w.getD 0 [] = kEdge) : pLine t told w = pEdge t told w := by
  unfold pLine
  rw [h, if_neg (by decide), if_neg (by decide), if_pos rfl]
theorem pLine_pool {t : Topo} {told : Bool} {w : List Str} (h : w.getD 0 [] = kPool) : pLine t told w = pPool t told w := by
  unfold pLine
  rw [h, if_neg (by decide), if_neg (by decide), if_neg (by decide), if_pos rfl]
theorem pLine_tol {t : Topo} {told : Bool} {w : List Str} (h : w.getD 0 [] = kTol) : pLine t told w = pTol t told w := by
  unfold pLine
  rw [h, if_neg (by decide), if_neg (by decide), if_neg (by decide), if_neg (by decide), if_pos rfl]
/-! ### a line of a device -/
theorem fDev_parts (d : TDev) : ((fDev' d).getD 0 [] = kDev ∧ (fDev' d).getD 1 [] = d.name ∧ (fDev' d).getD 2 [] = kCap ∧ (fDev' d).getD 3 [] = dec d.cap.toNat ∧ 4 ≤ (fDev' d).length) ∧
    opt (fDev' d) 4 sRanges = d.rng ∧ opt (fDev' d) (n1 (fDev' d)) sVol = d.vol ∧ opt (fDev' d) (n2 (fDev' d)) sClass = !(d.cls == []) ∧ dCls (fDev' d) = d.cls ∧ dAt (fDev' d) = (fDev' d).length := by
  obtain ⟨name, cap, rng, vol, cls⟩ := d
  cases cls with
  | nil =>
    cases rng <;> cases vol <;> exact ⟨⟨rfl, rfl, rfl, rfl, Nat.le_of_ble_eq_true rfl⟩, rfl, rfl, rfl, rfl, rfl⟩
  | cons c cls =>
    cases rng <;> cases vol <;> exact ⟨⟨rfl, rfl, rfl, rfl, Nat.le_of_ble_eq_true rfl⟩, rfl, rfl, rfl, rfl, rfl⟩
theorem pDev_step (t : Topo) (told : Bool) (d : TDev) (h1 : vname d.name = true) (h2 : 0 ≤ d.cap ∧ d.cap ≤ 4096) (h3 : d.cls = [] ∨ vname d.cls = true) (h4 : tDevice t d.name < 0) (h5 : t.devs.length < 12) :
    pLine t told (fDev' d) = (0, { t with devs := t.devs ++ [d] }, told) := by
  obtain ⟨⟨e0, e1, e2, e3, hl⟩, o1, o2, o3, o4, o5⟩ := fDev_parts d
  generalize fDev' d = w at *
  have hc : ((d.cap.toNat : Nat) : Int) = d.cap := Int.toNat_of_nonneg h2.1
  have hn := number_dec d.cap.toNat 0 4096 (by omega) (by omega) (by omega)
  rw [hc] at hn
  have b5 : (opt w (n2 w) sClass && !vname (dCls w)) = false := by
    rw [o3, o4]
    rcases h3 with h3 | h3
    · rw [h3]; rfl
    · rw [h3]; simp
  have hnew : dNew w = d := by
    unfold dNew
    rw [e1, e3, hn, o1, o2, o4]
  unfold pLine
  rw [if_pos e0]
  unfold pDev
  rw [form_dev hl, e0, e1, e2, e3, h1, digitsB_dec, b5, o5, hn, hnew, decide_eq_false (show ¬ (w.length : Int) < 4 by omega), decide_eq_false (show ¬ (w.length : Int) < w.length by omega), decide_eq_false (show ¬ tDevice t d.name ≥ 0 by omega), decide_eq_false (show ¬ (t.devs.length : Int) ≥ 12 by omega)]
  rfl
theorem pDevs {T : Topo} (h : RV T) (t : Topo) (told : Bool) : ∀ (rest done : List TDev), T.devs = done ++ rest → pW (rest.map fDev') { t with devs := done } told = some ({ t with devs := T.devs }, told)
  | [], done, e => by rw [e, List.append_nil]; rfl
  | d :: rest, done, e => by
    have hi : T.devs[done.length]? = some d := by rw [e]; simp
    obtain ⟨a1, a2, a3, a4, a5⟩ := h.devI _ _ hi
    have hd : tDevice { t with devs := done } d.name < 0 := by
      have := firstAt_done (p := fun x : TDev => x.name == d.name) (l := T.devs) (i := done.length) a2
      rw [e, List.take_left] at this
      show firstAt _ done < 0
      rw [this]; decide
    have hl : done.length < 12 := by
      have := h.d2
      rw [e] at this
      simp at this
      omega
    rw [List.map_cons, pW_cons (pDev_step { t with devs := done } told d a1 ⟨a3, a4⟩ a5 hd hl)]
    exact pDevs h t told rest (done ++ [d]) (by rw [e]; simp)
/-! ### a line of a link -/
theorem nm_dev {T : Topo} (h : RV T) {a : Int} (h0 : 0 ≤ a) (h1 : a < T.devs.length) : tDevice T (nm T a) = a ∧ vname (nm T a) = true := by
  have hlt : a.toNat < T.devs.length := by omega
  have hg : T.devs[a.toNat]? = some (T.devs.getD a.toNat dev0) := by rw [List.getD, List.getElem?_eq_getElem hlt]; rfl
  obtain ⟨a1, a2, _⟩ := h.devI _ _ hg
  refine ⟨?_, a1⟩
  show tDevice T (T.devs.getD a.toNat dev0).name = a
  rw [a2]; omega
theorem pLink_step {T : Topo} (h : RV T) {l : TLink} (hm : l ∈ T.links) (t : Topo) (told : Bool) (hd : t.devs = T.devs) (hl : t.links.length < 24) : pLine t told (fLink' T l) = (0, { t with links := t.links ++ [l] }, told) := by
  obtain ⟨m1, m2, m3, m4, m5⟩ := h.link l hm
  have ea := (nm_dev h m1 (show l.a < T.devs.length by omega)).1
  have eb := (nm_dev h (show 0 ≤ l.b by omega) m3).1
  have ht : ∀ x, tDevice t x = tDevice T x := fun x => by unfold tDevice; rw [hd]
  have hc : ((l.cost.toNat : Nat) : Int) = l.cost := Int.toNat_of_nonneg (by omega)
  have hn := number_dec l.cost.toNat 1 1000 (by omega) (by omega) (by omega)
  rw [hc] at hn
  have e1 : (fLink' T l).getD 1 [] = nm T l.a := rfl
  have e2 : (fLink' T l).getD 2 [] = nm T l.b := rfl
  have e4 : (fLink' T l).getD 4 [] = dec l.cost.toNat := rfl
  have ef : formB (fLink' T l) fLink = true := by rw [form_link]; rfl
  rw [pLine_link (show (fLink' T l).getD 0 [] = kLink from rfl)]
  unfold pLink
  have hne : (l.a == l.b) = false := by simp; omega
  rw [ef, e1, e2, e4, digitsB_dec, hn, ht, ht, ea, eb, hne, decide_eq_false (show ¬ l.a < 0 by omega), decide_eq_false (show ¬ l.b < 0 by omega), decide_eq_false (show ¬ (t.links.length : Int) ≥ 24 by omega), Int.min_eq_left (by omega), Int.max_eq_right (by omega)]
  rfl
theorem pLinks {T : Topo} (h : RV T) (t : Topo) (told : Bool) (hd : t.devs = T.devs) : ∀ (rest done : List TLink), T.links = done ++ rest → pW (rest.map (fLink' T)) { t with links := done } told = some ({ t with links := T.links }, told)
  | [], done, e => by rw [e, List.append_nil]; rfl
  | l :: rest, done, e => by
    have hl : done.length < 24 := by
      have := h.l2
      rw [e] at this
      simp at this
      omega
    rw [List.map_cons, pW_cons (pLink_step h (by rw [e]; simp) { t with links := done } told hd hl)]
    exact pLinks h t told hd rest (done ++ [l]) (by rw [e]; simp)
/-! ### a line of an edge -/
theorem pEdge_step {T : Topo} (hv : tValid T = true) (h : RV T) (hin : PIn T) {i : Nat} {e : TEdge} (he : T.edges[i]? = some e) (t : Topo) (told : Bool) (hd : t.devs = T.devs) (hte : t.edges = T.edges.take i) : pLine t told (fEdge' T e) = (0, { t with edges := t.edges ++ [e] }, told) := by
  obtain ⟨⟨a1, a2⟩, a3, ⟨a4, a5⟩, a6, a7, a8⟩ := h.edgeI i e he
  have hm := List.mem_of_getElem? he
  have hpi := hin.edges e hm
  have hbb := rvalid_b a7
  have hdv := (nm_dev h a4 a5).1
  have ht : ∀ x, tDevice t x = tDevice T x := fun x => by unfold tDevice; rw [hd]
  have hed : tEdge t e.name < 0 := by
    have := firstAt_done (p := fun x : TEdge => x.name == e.name) (l := T.edges) (i := i) a3
    show firstAt _ t.edges < 0
    rw [hte, this]; decide
  have hlt : i < T.edges.length := (List.getElem?_eq_some_iff.1 he).1
  have hle : (t.edges.length : Int) < 12 := by
    have := h.e2
    rw [hte, List.length_take]
    omega
  have hno : e.planned = false → t.edges.any (fun o => !o.planned && pover o.pfx e.pfx) = false := by
    intro hp
    simp only [tValid, Bool.and_eq_true] at hv
    have hg := allI_get hv.2.2.2.1 he
    simp only [gEdge, Bool.and_eq_true] at hg
    rw [hte, List.any_eq_false]
    intro o ho
    have := List.all_eq_true.1 hg.2 o ho
    unfold gMeet at this
    rw [hp, pover_comm] at this
    intro hc
    rw [Bool.not_false, Bool.true_and, hc] at this
    cases this
  have hbn : ((e.pfx.bits.toNat : Nat) : Int) = e.pfx.bits := Int.toNat_of_nonneg hbb.1
  have hn := number_dec e.pfx.bits.toNat 1 32 (by omega) (by omega) (by omega)
  rw [hbn] at hn
  obtain ⟨name, dev, zone, pfx, planned⟩ := e
  dsimp only at *
  cases planned with
  | true =>
    have hw : fEdge' T ⟨name, dev, zone, pfx, true⟩ = [kEdge, name, kAt, nm T dev, kZone, zone, kSize, dec pfx.bits.toNat] := rfl
    rw [hw]
    have f1 : formB [kEdge, name, kAt, nm T dev, kZone, zone, kSize, dec pfx.bits.toNat] fSub = false := by rw [form_sub]; rfl
    have f2 : formB [kEdge, name, kAt, nm T dev, kZone, zone, kSize, dec pfx.bits.toNat] fSize = true := by rw [form_size]; rfl
    have hnew : eNew t [kEdge, name, kAt, nm T dev, kZone, zone, kSize, dec pfx.bits.toNat] = ⟨name, dev, zone, pfx, true⟩ := by
      unfold eNew ePf
      rw [f1, f2]
      show TEdge.mk name (tDevice t (nm T dev)) zone ⟨0, (number (dec pfx.bits.toNat) 1 32).1⟩ true = _
      rw [ht, hdv, hn, ← a8 rfl]
    rw [pLine_edge rfl]
    unfold pEdge eBad eIn
    rw [f1, f2, hnew]
    show (if ((!false && !true) || !vname name) || !vname zone then _ else if !digitsB (dec pfx.bits.toNat) then _ else if !(number (dec pfx.bits.toNat) 1 32).2 then _ else if decide (tDevice t (nm T dev) < 0) then _ else if decide (tEdge t name ≥ 0) then _ else _) = _
    rw [a1, a2, digitsB_dec, hn, ht, hdv, decide_eq_false (show ¬ dev < 0 by omega), decide_eq_false (show ¬ tEdge t name ≥ 0 by omega), decide_eq_false (show ¬ (t.edges.length : Int) ≥ 12 by omega)]
    rfl
  | false =>
    have hp := pfx_pfxS pfx hpi a7
    have hw : fEdge' T ⟨name, dev, zone, pfx, false⟩ = [kEdge, name, kAt, nm T dev, kZone, zone, kSub, pfxS pfx] := rfl
    rw [hw]
    have f1 : formB [kEdge, name, kAt, nm T dev, kZone, zone, kSub, pfxS pfx] fSub = true := by rw [form_sub]; rfl
    have f2 : formB [kEdge, name, kAt, nm T dev, kZone, zone, kSub, pfxS pfx] fSize = false := by rw [form_size]; rfl
    have hpf : ePf [kEdge, name, kAt, nm T dev, kZone, zone, kSub, pfxS pfx] = pfx := by
      unfold ePf
      rw [f1]
      show (pfxParse (pfxS pfx)).1 = pfx
      rw [hp]
    have hnew : eNew t [kEdge, name, kAt, nm T dev, kZone, zone, kSub, pfxS pfx] = ⟨name, dev, zone, pfx, false⟩ := by
      unfold eNew
      rw [hpf, f2]
      show TEdge.mk name (tDevice t (nm T dev)) zone pfx false = _
      rw [ht, hdv]
    rw [pLine_edge rfl]
    unfold pEdge eBad eIn
    rw [f1, f2, hnew, hpf]
    show (if ((!true && !false) || !vname name) || !vname zone then _ else if !(pfxParse (pfxS pfx)).2 then _ else if !decide ((pfxParse (pfxS pfx)).1.bits > 0) then _ else if decide (tDevice t (nm T dev) < 0) then _ else if decide (tEdge t name ≥ 0) then _ else _) = _
    rw [a1, a2, hp, hno rfl, ht, hdv, decide_eq_false (show ¬ dev < 0 by omega), decide_eq_false (show ¬ tEdge t name ≥ 0 by omega), decide_eq_false (show ¬ (t.edges.length : Int) ≥ 12 by omega), decide_eq_true (show pfx.bits > 0 by omega)]
    rfl
theorem pEdges {T : Topo} (hv : tValid T = true) (h : RV T) (hin : PIn T) (t : Topo) (told : Bool) (hd : t.devs = T.devs) : ∀ (rest done : List TEdge), T.edges = done ++ rest → pW (rest.map (fEdge' T)) { t with edges := done } told = some ({ t with edges := T.edges }, told)
  | [], done, e => by rw [e, List.append_nil]; rfl
  | x :: rest, done, e => by
    have hi : T.edges[done.length]? = some x := by rw [e]; simp
    rw [List.map_cons, pW_cons (pEdge_step hv h hin hi { t with edges := done } told hd (by rw [e]; simp))]
    exact pEdges hv h hin t told hd rest (done ++ [x]) (by rw [e]; simp)
/-! ### lines of pools, and of tolerate -/
theorem pPool_step (p : TPfx) (hp : PfxIn p) (hv : rvalid p = true) (t : Topo) (told : Bool) (ho : t.pools.any (fun q => pover q p) = false) (hl : t.pools.length < 8) : pLine t told (fPool' p) = (0, { t with pools := t.pools ++ [p] }, told) := by
  have h := pfx_pfxS p hp hv
  have f : formB (fPool' p) fPool = true := by rw [form_pool]; rfl
  have e1 : (fPool' p).getD 1 [] = pfxS p := rfl
  rw [pLine_pool (show (fPool' p).getD 0 [] = kPool from rfl)]
  unfold pPool
  rw [f, e1, h, ho, decide_eq_false (show ¬ (t.pools.length : Int) ≥ 8 by omega)]
  rfl
/-- Pools of which no two overlap. -/
def Apart (l : List TPfx) : Prop := l.Pairwise fun p q => pover p q = false
theorem pPools (t : Topo) (told : Bool) : ∀ (rest done : List TPfx), (∀ p ∈ rest, PfxIn p ∧ rvalid p = true) → Apart (done ++ rest) → (done ++ rest).length ≤ 8 → pW (rest.map fPool') { t with pools := done } told = some ({ t with pools := done ++ rest }, told)
  | [], done, _, _, _ => by rw [List.append_nil]; rfl
  | p :: rest, done, hp, ha, hl => by
    obtain ⟨h1, h2⟩ := hp p (List.mem_cons_self ..)
    have ho : done.any (fun q => pover q p) = false := by
      rw [List.any_eq_false]
      intro q hq
      have := (List.pairwise_append.1 ha).2.2 q hq p (List.mem_cons_self ..)
      rw [this]; exact Bool.false_ne_true
    have hlt : done.length < 8 := by simp at hl; omega
    have e : done ++ p :: rest = (done ++ [p]) ++ rest := by simp
    rw [List.map_cons, pW_cons (pPool_step p h1 h2 { t with pools := done } told ho hlt)]
    have := pPools t told rest (done ++ [p]) (fun q hq => hp q (List.mem_cons_of_mem _ hq)) (by rw [← e]; exact ha) (by rw [← e]; exact hl)
    rw [e]
    exact this
theorem pTol_step (n : Int) (h : 0 ≤ n ∧ n ≤ 2) (t : Topo) : pLine t false [kTol, dec n.toNat] = (0, { t with tol := n }, true) := by
  have hc : ((n.toNat : Nat) : Int) = n := Int.toNat_of_nonneg h.1
  have hn := number_dec n.toNat 0 2 (by omega) (by omega) (by omega)
  rw [hc] at hn
  have f : formB [kTol, dec n.toNat] fTol = true := by rw [form_tol]; rfl
  rw [pLine_tol rfl]
  unfold pTol
  rw [f, show [kTol, dec n.toNat].getD 1 [] = dec n.toNat from rfl, digitsB_dec, hn]
  rfl
theorem pools_apart {T : Topo} (hv : tValid T = true) : Apart T.pools := by
  simp only [tValid, Bool.and_eq_true] at hv
  have hg := hv.2.2.2.2
  unfold Apart
  rw [List.pairwise_iff_getElem]
  intro i j hi hj hij
  have h1 := allI_get hg (List.getElem?_eq_getElem hj)
  simp only [gPool, Bool.not_eq_true', Bool.or_eq_false_iff] at h1
  have := List.any_eq_false.1 h1.2 T.pools[i] (List.mem_iff_getElem?.2 ⟨i, by rw [List.getElem?_take, if_pos hij, List.getElem?_eq_getElem hi]⟩)
  rw [pover_comm]
  simpa using this
/-! ### the whole text -/
theorem fLines_words (T : Topo) : (fLines T).map TLine.words = ((T.devs.map fDev' ++ T.links.map (fLink' T)) ++ T.edges.map (fEdge' T) ++ T.pools.map fPool') ++ [fTol' T] := by
  simp only [fLines, List.map_append, List.map_map, List.map_cons, List.map_nil]
  rfl
theorem pW_lines {T : Topo} (hv : rValid T = true) (hin : PIn T) : pW ((fLines T).map TLine.words) topo0 false = some (T, true) := by
  have h := rValid_rv hv
  have htv : tValid T = true := by rw [← rValid_eq T ⟨hin.edges, hin.pools⟩]; exact hv
  have s1 := pDevs h topo0 false T.devs [] rfl
  have s2 := pLinks h { topo0 with devs := T.devs } false rfl T.links [] rfl
  have s3 := pEdges htv h hin { topo0 with devs := T.devs, links := T.links } false rfl T.edges [] rfl
  have s4 := pPools { topo0 with devs := T.devs, links := T.links, edges := T.edges } false T.pools [] (fun p hp => ⟨hin.pools p hp, h.ptop hp⟩) (by simpa using pools_apart htv) (by simpa using h.p2)
  have s5 := pTol_step T.tol h.tol { topo0 with devs := T.devs, links := T.links, edges := T.edges, pools := T.pools }
  rw [fLines_words, pW_append, pW_append, pW_append, pW_append]
  have e1 : pW (T.devs.map fDev') topo0 false = some ({ topo0 with devs := T.devs }, false) := s1
  rw [e1, Option.bind_some]
  have e2 : pW (T.links.map (fLink' T)) { topo0 with devs := T.devs } false = some ({ topo0 with devs := T.devs, links := T.links }, false) := s2
  rw [e2, Option.bind_some]
  have e3 : pW (T.edges.map (fEdge' T)) { topo0 with devs := T.devs, links := T.links } false = some ({ topo0 with devs := T.devs, links := T.links, edges := T.edges }, false) := s3
  rw [e3, Option.bind_some]
  have e4 : pW (T.pools.map fPool') { topo0 with devs := T.devs, links := T.links, edges := T.edges } false = some ({ topo0 with devs := T.devs, links := T.links, edges := T.edges, pools := T.pools }, false) := s4
  rw [e4, Option.bind_some]
  exact (pW_cons (ws := []) s5).trans rfl
/-! ### good lines -/
theorem gbyte_v : ∀ n : Fin 256, vbyte (UInt8.ofNat n.val) = true → gbyte (UInt8.ofNat n.val) = true := by decide +kernel
theorem gbyte_d : ∀ n : Fin 256, dbad (UInt8.ofNat n.val) = false → gbyte (UInt8.ofNat n.val) = true := by decide +kernel
theorem of_fin {p : UInt8 → Prop} (h : ∀ n : Fin 256, p (UInt8.ofNat n.val)) (c : UInt8) : p c := by
  have := h ⟨c.toNat, c.toNat_lt⟩
  simpa using this
theorem vname_gw {s : Str} (h : vname s = true) : GW s := by
  unfold vname at h
  simp only [Bool.and_eq_true, Bool.not_eq_true'] at h
  obtain ⟨h1, h2⟩ := h
  refine ⟨fun e => ?_, fun c hc => of_fin (p := fun c => vbyte c = true → gbyte c = true) gbyte_v c (List.all_eq_true.1 h2 c hc)⟩
  subst e
  simp [vhead] at h1
theorem dec_g (n : Nat) : ∀ c ∈ dec n, gbyte c = true := fun c hc => of_fin (p := fun c => dbad c = false → gbyte c = true) gbyte_d c (by simpa using List.any_eq_false.1 (dec_dig n) c hc)
theorem dec_gw (n : Nat) : GW (dec n) := ⟨dec_ne n, dec_g n⟩
theorem pfxS_gw (p : TPfx) : GW (pfxS p) := by
  refine ⟨by simp [pfxS], fun c hc => ?_⟩
  simp only [pfxS, addrS, List.mem_append, List.mem_singleton] at hc
  rcases hc with ((((((((hc | hc) | hc) | hc) | hc) | hc) | hc) | hc) | hc)
  all_goals first | exact dec_g _ c hc | (subst hc; decide)
theorem key_gw {s : Str} (h : (!(s == []) && s.all gbyte) = true) : GW s := by
  simp only [Bool.and_eq_true, Bool.not_eq_true', beq_eq_false_iff_ne] at h
  exact ⟨h.1, List.all_eq_true.1 h.2⟩
theorem fLines_good {T : Topo} (h : RV T) : LGood (fLines T) := by
  have hk : GW kDev ∧ GW kCap ∧ GW sRanges ∧ GW sVol ∧ GW sClass ∧ GW kLink ∧ GW kCost ∧ GW kEdge ∧ GW kAt ∧ GW kZone ∧ GW kSub ∧ GW kSize ∧ GW kPool ∧ GW kTol := ⟨key_gw (by decide), key_gw (by decide), key_gw (by decide), key_gw (by decide), key_gw (by decide), key_gw (by decide), key_gw (by decide), key_gw (by decide), key_gw (by decide), key_gw (by decide), key_gw (by decide), key_gw (by decide), key_gw (by decide), key_gw (by decide)⟩
  obtain ⟨g1, g2, g3, g4, g5, g6, g7, g8, g9, g10, g11, g12, g13, g14⟩ := hk
  refine ⟨fun x hx => ?_, fun x hx => by have := (fLines_le h x hx).few; omega, fun x hx => ?_⟩
  · simp only [fLines, List.mem_append, List.mem_map, List.mem_singleton] at hx
    rcases hx with (((hx | hx) | hx) | hx) | hx
    · obtain ⟨d, hd, rfl⟩ := hx
      have := (fDev_parts d).1.2.2.2.2
      show 0 < (fDev' d).length
      omega
    · obtain ⟨l, hl, rfl⟩ := hx; exact Nat.le_of_ble_eq_true rfl
    · obtain ⟨e, he, rfl⟩ := hx
      show 0 < (fEdge' T e).length
      simp [fEdge', fEdge0]
    · obtain ⟨p, hp, rfl⟩ := hx; exact Nat.le_of_ble_eq_true rfl
    · subst hx; exact Nat.le_of_ble_eq_true rfl
  · simp only [fLines, List.mem_append, List.mem_map, List.mem_singleton] at hx
    rcases hx with (((hx | hx) | hx) | hx) | hx
    · obtain ⟨d, hd, rfl⟩ := hx
      obtain ⟨d1, d2, d3⟩ := h.dev hd
      intro s hs
      have hs : s ∈ fDev' d := hs
      simp only [fDev', fDev2, fDev1, fDev0, List.mem_append, List.mem_cons, List.not_mem_nil, or_false] at hs
      rcases hs with ((hs | hs) | hs) | hs
      · rcases hs with rfl | rfl | rfl | rfl
        · exact g1
        · exact vname_gw d1
        · exact g2
        · exact dec_gw _
      · split at hs
        · rw [List.mem_singleton] at hs; subst hs; exact g3
        · cases hs
      · split at hs
        · rw [List.mem_singleton] at hs; subst hs; exact g4
        · cases hs
      · split at hs
        · cases hs
        · rename_i hc
          simp only [List.mem_cons, List.not_mem_nil, or_false] at hs
          rcases hs with rfl | rfl
          · exact g5
          · rcases d3 with d3 | d3
            · rw [d3] at hc; exact absurd rfl hc
            · exact vname_gw d3
    · obtain ⟨l, hl, rfl⟩ := hx
      obtain ⟨m1, m2, m3, m4, m5⟩ := h.link l hl
      intro s hs
      have hs : s ∈ fLink' T l := hs
      simp only [fLink', List.mem_cons, List.not_mem_nil, or_false] at hs
      rcases hs with rfl | rfl | rfl | rfl | rfl
      · exact g6
      · exact vname_gw (nm_dev h m1 (by omega)).2
      · exact vname_gw (nm_dev h (by omega) m3).2
      · exact g7
      · exact dec_gw _
    · obtain ⟨e, he, rfl⟩ := hx
      obtain ⟨⟨e1, e2⟩, ⟨e3, e4⟩, e5⟩ := h.edge he
      intro s hs
      have hs : s ∈ fEdge' T e := hs
      simp only [fEdge', fEdge0, List.mem_append, List.mem_cons, List.not_mem_nil, or_false] at hs
      rcases hs with hs | hs
      · rcases hs with rfl | rfl | rfl | rfl | rfl | rfl
        · exact g8
        · exact vname_gw e1
        · exact g9
        · exact vname_gw (nm_dev h e3 e4).2
        · exact g10
        · exact vname_gw e2
      · split at hs
        · simp only [List.mem_cons, List.not_mem_nil, or_false] at hs
          rcases hs with rfl | rfl
          · exact g12
          · exact dec_gw _
        · simp only [List.mem_cons, List.not_mem_nil, or_false] at hs
          rcases hs with rfl | rfl
          · exact g11
          · exact pfxS_gw _
    · obtain ⟨p, hp, rfl⟩ := hx
      intro s hs
      have hs : s ∈ fPool' p := hs
      simp only [fPool', List.mem_cons, List.not_mem_nil, or_false] at hs
      rcases hs with rfl | rfl
      · exact g13
      · exact pfxS_gw _
    · subst hx
      intro s hs
      have hs : s ∈ fTol' T := hs
      simp only [fTol', List.mem_cons, List.not_mem_nil, or_false] at hs
      rcases hs with rfl | rfl
      · exact g14
      · exact dec_gw _
/-- A list of good lines that the parser accepts is parsed as what they say. -/
theorem tParse_text {l : List TLine} (hg : LGood l) (hb : (textS l).length ≤ 16384) {t : Topo} {told : Bool} (h : pW (l.map TLine.words) topo0 false = some (t, told)) (hd : 1 ≤ t.devs.length) : tParse (textS l) = (t, 0, 0) := by
  unfold tParse
  rw [lines_text l hg hb]
  have h1 := pRun_pW (numF 0 l) topo0 t false told (by rw [numF_words]; exact h)
  show (if ((0 : Int) != 0) = true then _ else pEnd (pRun (numF 0 l) topo0 false)) = _
  rw [h1, if_neg (by decide)]
  unfold pEnd
  show (if ((0 : Int) != 0) = true then _ else if t.devs.length = 0 then _ else _) = _
  rw [if_neg (by decide), if_neg (by omega)]
theorem tParse_format {T : Topo} (hv : rValid T = true) (hin : PIn T) : tParse (textS (fLines T)) = (T, 0, 0) := by
  have h := rValid_rv hv
  have h1 := textS_len _ (fLines_le h)
  have h2 := fLines_len h
  exact tParse_text (fLines_good h) (by omega) (pW_lines hv hin) h.d1
end Go.Proofs.YtdehdgbdcfkpbaaGreatDoor
