/-
  Plain laws of the lines of topologies: the reference's reader does what the program's parser does.
-/
import Derived.Test.YtdehdgbdcfkpbaaGreatDoorKP3
import Derived.Test.YtdehdgbdcfkpbaaGreatDoorKP4
import Derived.Test.YtdehdgbdcfkpbaaGreatDoorKB12
namespace Go.Proofs.YtdehdgbdcfkpbaaGreatDoor
open Go Go.Pw
def kCost : Str := [99, 111, 115, 116]
def kCap : Str := [99, 97, 112, 97, 99, 105, 116, 121]
def kAt : Str := [97, 116]
def kZone : Str := [122, 111, 110, 101]
def kSub : Str := [115, 117, 98, 110, 101, 116]
def kSize : Str := [115, 105, 122, 101]
structure PIn (t : Topo) : Prop where
  edges : ∀ e ∈ t.edges, PfxIn e.pfx
  pools : ∀ p ∈ t.pools, PfxIn p
/-! ### the reference's lines -/
def qDevC (w : List Str) : Bool := ((((w.length - n2 w : Nat) : Int) == 2) && opt w (n2 w) sClass) && vname (w.getD (n2 w + 1) [])
def qDev (t : Topo) (told : Bool) (w : List Str) : LineR :=
  if ((decide ((w.length : Int) < 4) || !(w.getD 2 [] == kCap)) || !vname (w.getD 1 [])) || !digitsB (w.getD 3 []) then (4, t, told) else
  if !qDevC w && decide (((w.length - n2 w : Nat) : Int) > 0) then (4, t, told) else
  if (tnum (w.getD 3 []) 0 4096).2 != 0 then ((tnum (w.getD 3 []) 0 4096).2, t, told) else
  if decide (tDevice t (w.getD 1 []) ≥ 0) then (6, t, told) else if (t.devs.length : Int) == 12 then (3, t, told) else
  (0, { t with devs := t.devs ++ [⟨w.getD 1 [], (tnum (w.getD 3 []) 0 4096).1, opt w 4 sRanges, opt w (n1 w) sVol, if qDevC w then w.getD (n2 w + 1) [] else []⟩] }, told)
def qLink (t : Topo) (told : Bool) (w : List Str) : LineR :=
  if ((w.length : Int) != 5) || !(w.getD 3 [] == kCost) then (4, t, told) else
  if (tnum (w.getD 4 []) 1 1000).2 != 0 then ((tnum (w.getD 4 []) 1 1000).2, t, told) else
  if decide (tDevice t (w.getD 1 []) < 0) || decide (tDevice t (w.getD 2 []) < 0) then (5, t, told) else
  if tDevice t (w.getD 1 []) == tDevice t (w.getD 2 []) then (6, t, told) else
  if (t.links.length : Int) == 24 then (3, t, told) else
  (0, { t with links := t.links ++ [⟨min (tDevice t (w.getD 1 [])) (tDevice t (w.getD 2 [])), max (tDevice t (w.getD 1 [])) (tDevice t (w.getD 2 [])), (tnum (w.getD 4 []) 1 1000).1⟩] }, told)
def qHead (w : List Str) : Bool := (((((w.length : Int) != 8) || !(w.getD 2 [] == kAt)) || !(w.getD 4 [] == kZone)) || !vname (w.getD 1 [])) || !vname (w.getD 5 [])
/-- The prefix of a line of an edge, and its error. -/
def qPf (w : List Str) : TPfx × Int :=
  if w.getD 6 [] == kSub then ((pfxParse (w.getD 7 [])).1, if decide ((pfxParse (w.getD 7 [])).1.bits < 1) then 2 else 0) else (⟨0, (tnum (w.getD 7 []) 1 32).1⟩, (tnum (w.getD 7 []) 1 32).2)
def qPl (w : List Str) : Bool := !(w.getD 6 [] == kSub)
def qEdge (t : Topo) (told : Bool) (w : List Str) : LineR :=
  if qHead w then (4, t, told) else if (if w.getD 6 [] == kSub then !(pfxParse (w.getD 7 [])).2 else !(w.getD 6 [] == kSize)) then (4, t, told) else
  if (qPf w).2 != 0 then ((qPf w).2, t, told) else
  if decide (tDevice t (w.getD 3 []) < 0) then (5, t, told) else if decide (tEdge t (w.getD 1 []) ≥ 0) then (6, t, told) else
  if !qPl w && (fixed t.edges).any (rmeet (qPf w).1) then (7, t, told) else if (t.edges.length : Int) == 12 then (3, t, told) else
  (0, { t with edges := t.edges ++ [⟨w.getD 1 [], tDevice t (w.getD 3 []), w.getD 5 [], (qPf w).1, qPl w⟩] }, told)
def qPool (t : Topo) (told : Bool) (w : List Str) : LineR :=
  if !(pfxParse (w.getD 1 [])).2 then (4, t, told) else if t.pools.any (rmeet (pfxParse (w.getD 1 [])).1) then (7, t, told) else if (t.pools.length : Int) == 8 then (3, t, told) else
  (0, { t with pools := t.pools ++ [(pfxParse (w.getD 1 [])).1] }, told)
def qTol (t : Topo) (told : Bool) (w : List Str) : LineR :=
  if ((tnum (w.getD 1 []) 0 2).2 == 0) && told then (6, t, told) else
  if (tnum (w.getD 1 []) 0 2).2 == 0 then (0, { t with tol := (tnum (w.getD 1 []) 0 2).1 }, true) else ((tnum (w.getD 1 []) 0 2).2, t, told)
def qLine (t : Topo) (told : Bool) (w : List Str) : LineR :=
  if w.getD 0 [] == kDev then qDev t told w else if w.getD 0 [] == kLink then qLink t told w else if w.getD 0 [] == kEdge then qEdge t told w else
  if ((w.length : Int) != 2) || (!(w.getD 0 [] == kPool) && !(w.getD 0 [] == kTol)) then (4, t, told) else
  if w.getD 0 [] == kPool then qPool t told w else qTol t told w
theorem pfx_in (s : Str) : PfxIn (pfxParse s).1 := ⟨(pfx_in0 s).1, (pfx_in0 s).2⟩
/-! ### forms -/
theorem formP_low {w p : Str} (h : decide (((p.headD 0).toNat : Int) ≤ 90) = false) : formP w p = (w == p) := by
  unfold formP; rw [h]; simp
theorem formP_up {w p : Str} (h : decide (((p.headD 0).toNat : Int) ≥ 65) = true) (h2 : decide (((p.headD 0).toNat : Int) ≤ 90) = true) : formP w p = true := by
  unfold formP; rw [h, h2]; simp
theorem formB_no {w p : List Str} (h : ¬ w.length = p.length) : formB w p = false := by
  unfold formB eqf; rw [decide_eq_false h]; rfl
theorem form_tol (w : List Str) : formB w fTol = (((w.length : Int) == 2) && (w.getD 0 [] == kTol)) := by
  by_cases h : w.length = 2
  · match w, h with
    | [a, b], _ =>
      unfold formB eqf fTol
      simp only [List.zip_cons_cons, List.zip_nil_right, List.all_cons, List.all_nil, formP_low (w := a) (p := [116, 111, 108, 101, 114, 97, 116, 101]) (by decide), formP_up (w := b) (p := [78]) (by decide) (by decide)]
      simp [kTol]
  · rw [formB_no h]; have : ((w.length : Int) == 2) = false := by simp; omega
    rw [this]; rfl
theorem form_pool (w : List Str) : formB w fPool = (((w.length : Int) == 2) && (w.getD 0 [] == kPool)) := by
  by_cases h : w.length = 2
  · match w, h with
    | [a, b], _ =>
      unfold formB eqf fPool
      simp only [List.zip_cons_cons, List.zip_nil_right, List.all_cons, List.all_nil, formP_low (w := a) (p := [112, 111, 111, 108]) (by decide), formP_up (w := b) (p := [80, 82, 69, 70, 73, 88]) (by decide) (by decide)]
      simp [kPool]
  · rw [formB_no h]; have : ((w.length : Int) == 2) = false := by simp; omega
    rw [this]; rfl
theorem form_link (w : List Str) : formB w fLink = (((w.length : Int) == 5) && ((w.getD 0 [] == kLink) && (w.getD 3 [] == kCost))) := by
  by_cases h : w.length = 5
  · match w, h with
    | [a, b, c, d, e], _ =>
      unfold formB eqf fLink
      simp only [List.zip_cons_cons, List.zip_nil_right, List.all_cons, List.all_nil, formP_low (w := a) (p := [108, 105, 110, 107]) (by decide), formP_low (w := d) (p := [99, 111, 115, 116]) (by decide),
        formP_up (w := b) (p := [68, 69, 86, 73, 67, 69]) (by decide) (by decide), formP_up (w := c) (p := [68, 69, 86, 73, 67, 69]) (by decide) (by decide), formP_up (w := e) (p := [78]) (by decide) (by decide)]
      simp [kLink, kCost]
  · rw [formB_no h]; have : ((w.length : Int) == 5) = false := by simp; omega
    rw [this]; rfl
theorem form_dev {w : List Str} (h4 : 4 ≤ w.length) : formB (w.take 4) fDev = ((w.getD 0 [] == kDev) && (w.getD 2 [] == kCap)) := by
  match w, h4 with
  | a :: b :: c :: d :: r, _ =>
    show formB [a, b, c, d] fDev = ((a == kDev) && (c == kCap))
    unfold formB eqf fDev
    simp only [List.zip_cons_cons, List.zip_nil_right, List.all_cons, List.all_nil, formP_low (w := a) (p := [100, 101, 118, 105, 99, 101]) (by decide), formP_low (w := c) (p := [99, 97, 112, 97, 99, 105, 116, 121]) (by decide),
      formP_up (w := b) (p := [78, 65, 77, 69]) (by decide) (by decide), formP_up (w := d) (p := [78]) (by decide) (by decide)]
    simp [kDev, kCap]
theorem form_edge (w : List Str) (k : Str) (p : List Str) (x : Str) (hp : p = [[101, 100, 103, 101], [78, 65, 77, 69], [97, 116], [68, 69, 86, 73, 67, 69], [122, 111, 110, 101], [90, 79, 78, 69], k, x]) (hk : decide (((k.headD 0).toNat : Int) ≤ 90) = false) (hx : decide (((x.headD 0).toNat : Int) ≥ 65) = true) (hx2 : decide (((x.headD 0).toNat : Int) ≤ 90) = true) :
    formB w p = (((w.length : Int) == 8) && ((w.getD 0 [] == kEdge) && ((w.getD 2 [] == kAt) && ((w.getD 4 [] == kZone) && (w.getD 6 [] == k))))) := by
  subst hp
  by_cases h : w.length = 8
  · match w, h with
    | [a, b, c, d, e, f, g, i], _ =>
      unfold formB eqf
      simp only [List.zip_cons_cons, List.zip_nil_right, List.all_cons, List.all_nil, formP_low (w := a) (p := [101, 100, 103, 101]) (by decide), formP_low (w := c) (p := [97, 116]) (by decide), formP_low (w := e) (p := [122, 111, 110, 101]) (by decide), formP_low (w := g) hk,
        formP_up (w := b) (p := [78, 65, 77, 69]) (by decide) (by decide), formP_up (w := d) (p := [68, 69, 86, 73, 67, 69]) (by decide) (by decide), formP_up (w := f) (p := [90, 79, 78, 69]) (by decide) (by decide), formP_up (w := i) hx hx2]
      simp [kEdge, kAt, kZone]
  · rw [formB_no h]; have : ((w.length : Int) == 8) = false := by simp; omega
    rw [this]; rfl
theorem form_sub (w : List Str) : formB w fSub = (((w.length : Int) == 8) && ((w.getD 0 [] == kEdge) && ((w.getD 2 [] == kAt) && ((w.getD 4 [] == kZone) && (w.getD 6 [] == kSub))))) := form_edge w kSub fSub _ rfl (by decide) (by decide) (by decide)
theorem form_size (w : List Str) : formB w fSize = (((w.length : Int) == 8) && ((w.getD 0 [] == kEdge) && ((w.getD 2 [] == kAt) && ((w.getD 4 [] == kZone) && (w.getD 6 [] == kSize))))) := form_edge w kSize fSize _ rfl (by decide) (by decide) (by decide)
/-! ### the lines agree -/
theorem tnum_2 (s : Str) (a b : Int) : (tnum s a b).2 = if !digitsB s then 4 else if !(number s a b).2 then 2 else 0 := by
  unfold tnum; split
  · rfl
  · split <;> rfl
theorem tnum_ok {s : Str} {a b : Int} (h1 : digitsB s = true) (h2 : (number s a b).2 = true) : tnum s a b = ((number s a b).1, 0) := by unfold tnum; rw [h1, h2]; rfl
theorem tnum_4 {s : Str} {a b : Int} (h1 : digitsB s = false) : tnum s a b = (0, 4) := by unfold tnum; rw [h1]; rfl
theorem tnum_r {s : Str} {a b : Int} (h1 : digitsB s = true) (h2 : (number s a b).2 = false) : tnum s a b = (0, 2) := by unfold tnum; rw [h1, h2]; rfl
theorem full_eq {n : Nat} {m : Nat} (h : n ≤ m) : ((n : Int) == (m : Int)) = decide ((n : Int) ≥ (m : Int)) := by
  rw [Bool.eq_iff_iff]; simp; omega
theorem qTol_eq {t : Topo} {told : Bool} {w : List Str} (hl : w.length = 2) (h0 : w.getD 0 [] = kTol) : qTol t told w = pTol t told w := by
  unfold qTol pTol
  have e1 : ((w.length : Int) == 2) = true := by simp; omega
  rw [form_tol, h0, e1]
  cases h1 : digitsB (w.getD 1 []) with
  | false => rw [tnum_4 h1]; simp
  | true =>
    cases h2 : (number (w.getD 1 []) 0 2).2 with
    | false => rw [tnum_r h1 h2]; simp
    | true => rw [tnum_ok h1 h2]; cases told <;> simp
theorem qPool_eq {t : Topo} {told : Bool} {w : List Str} (ht : TLim t) (hin : PIn t) (hl : w.length = 2) (h0 : w.getD 0 [] = kPool) : qPool t told w = pPool t told w := by
  unfold qPool pPool
  have e1 : ((w.length : Int) == 2) = true := by simp; omega
  have hp : PfxIn (pfxParse (w.getD 1 [])).1 := pfx_in _
  rw [form_pool, h0, e1, list_meet hp hin.pools, show ((t.pools.length : Int) == 8) = decide ((t.pools.length : Int) ≥ 8) from full_eq (m := 8) ht.pools]
  simp
theorem qLink_eq {t : Topo} {told : Bool} {w : List Str} (ht : TLim t) (h0 : w.getD 0 [] = kLink) : qLink t told w = pLink t told w := by
  unfold qLink pLink
  rw [form_link, h0, show ((t.links.length : Int) == 24) = decide ((t.links.length : Int) ≥ 24) from full_eq (m := 24) ht.links]
  cases h1 : ((w.length : Int) == 5) with
  | false => rw [bne, h1]; simp
  | true =>
    rw [bne, h1]
    cases h2 : (w.getD 3 [] == kCost) with
    | false => simp
    | true =>
      cases h3 : digitsB (w.getD 4 []) with
      | false => rw [tnum_4 h3]; simp
      | true =>
        cases h4 : (number (w.getD 4 []) 1 1000).2 with
        | false => rw [tnum_r h3 h4]; simp
        | true => rw [tnum_ok h3 h4]; simp
theorem optN_yes {w : List Str} {n : Nat} {x : Str} (h : opt w n x = true) : optN w n x = n + 1 := by unfold opt at h; unfold optN; rw [h]
theorem optN_no {w : List Str} {n : Nat} {x : Str} (h : opt w n x = false) : optN w n x = n := by unfold opt at h; unfold optN; rw [h]
theorem opt_lt {w : List Str} {n : Nat} {x : Str} (h : opt w n x = true) : n < w.length := by
  have : w[n]? = some x := by simpa [opt] using h
  exact (List.getElem?_eq_some_iff.1 this).1
theorem qDev_eq {t : Topo} {told : Bool} {w : List Str} (ht : TLim t) (h0 : w.getD 0 [] = kDev) : qDev t told w = pDev t told w := by
  unfold qDev pDev
  rw [show ((t.devs.length : Int) == 12) = decide ((t.devs.length : Int) ≥ 12) from full_eq (m := 12) ht.devs]
  by_cases h4 : (w.length : Int) < 4
  · rw [decide_eq_true h4]; simp
  have h4' : 4 ≤ w.length := by omega
  rw [decide_eq_false h4, form_dev h4', h0]
  cases h2 : (w.getD 2 [] == kCap) with
  | false => simp
  | true =>
    cases h3 : vname (w.getD 1 []) with
    | false => simp
    | true =>
      cases h5 : digitsB (w.getD 3 []) with
      | false => simp
      | true =>
        have hn1 : n1 w ≤ w.length := optN_le (by omega)
        have hn2 : n2 w ≤ w.length := optN_le hn1
        have key : (!qDevC w && decide (((w.length - n2 w : Nat) : Int) > 0)) = ((opt w (n2 w) sClass && !vname (dCls w)) || decide ((dAt w : Int) < w.length)) ∧
            ((!qDevC w && decide (((w.length - n2 w : Nat) : Int) > 0)) = false → (if qDevC w then w.getD (n2 w + 1) [] else []) = dCls w) := by
          unfold qDevC dCls dAt n3
          cases h6 : opt w (n2 w) sClass with
          | false =>
            rw [optN_no h6]
            simp only [Bool.and_false, Bool.false_and, Bool.not_false, Bool.true_and, Bool.false_eq_true, if_false, Bool.false_or, implies_true, and_true]
            rw [Bool.eq_iff_iff]; simp; omega
          | true =>
            have h7 := opt_lt h6
            rw [optN_yes h6]
            simp only [Bool.and_true, if_true, Bool.true_and]
            by_cases h8 : n2 w + 1 < w.length
            · rw [if_pos h8]
              cases h9 : vname (w.getD (n2 w + 1) []) with
              | false =>
                simp only [Bool.and_false, Bool.not_false, Bool.true_and, Bool.true_or]
                have : decide (((w.length - n2 w : Nat) : Int) > 0) = true := by simp; omega
                rw [this]
                exact ⟨rfl, fun h => by cases h⟩
              | true =>
                simp only [Bool.and_true, Bool.not_true, Bool.false_or]
                by_cases h10 : w.length - n2 w = 2
                · have e1 : (((w.length - n2 w : Nat) : Int) == 2) = true := by simp; omega
                  have e2 : decide (((n2 w + 1 + 1 : Nat) : Int) < (w.length : Int)) = false := by simp; omega
                  rw [e1, e2]; simp
                · have e1 : (((w.length - n2 w : Nat) : Int) == 2) = false := by simp; omega
                  have e2 : decide (((n2 w + 1 + 1 : Nat) : Int) < (w.length : Int)) = true := by simp; omega
                  have e3 : decide (((w.length - n2 w : Nat) : Int) > 0) = true := by simp; omega
                  rw [e1, e2, e3]
                  exact ⟨rfl, fun h => by cases h⟩
            · rw [if_neg h8]
              have e0 : w.getD (n2 w + 1) [] = [] := by rw [List.getD, List.getElem?_eq_none (by omega)]; rfl
              have e1 : (((w.length - n2 w : Nat) : Int) == 2) = false := by simp; omega
              have e3 : decide (((w.length - n2 w : Nat) : Int) > 0) = true := by simp; omega
              rw [e0, e1, e3, show vname [] = false from rfl]
              exact ⟨rfl, fun h => by cases h⟩
        rw [key.1]
        have k2 := key.2
        rw [key.1] at k2
        cases h6 : (opt w (n2 w) sClass && !vname (dCls w)) with
        | true => simp
        | false =>
          cases h7 : decide ((dAt w : Int) < w.length) with
          | true => simp
          | false =>
            rw [h6, h7] at k2
            rw [k2 rfl]
            unfold dNew
            cases h8 : (number (w.getD 3 []) 0 4096).2 with
            | false => rw [tnum_r h5 h8]; simp
            | true => rw [tnum_ok h5 h8]; simp
theorem qEdge_eq {t : Topo} {told : Bool} {w : List Str} (ht : TLim t) (hin : PIn t) (h0 : w.getD 0 [] = kEdge) : qEdge t told w = pEdge t told w := by
  unfold qEdge pEdge qHead eBad eIn eNew ePf qPf qPl
  have ef : formB w fSize = (((w.length : Int) == 8) && ((w.getD 2 [] == kAt) && ((w.getD 4 [] == kZone) && (w.getD 6 [] == kSize)))) := by rw [form_size, h0]; rfl
  have es : formB w fSub = (((w.length : Int) == 8) && ((w.getD 2 [] == kAt) && ((w.getD 4 [] == kZone) && (w.getD 6 [] == kSub)))) := by rw [form_sub, h0]; rfl
  rw [show ((t.edges.length : Int) == 12) = decide ((t.edges.length : Int) ≥ 12) from full_eq (m := 12) ht.edges, ef, es, bne]
  cases h1 : ((w.length : Int) == 8) with
  | false => simp
  | true =>
    cases h2 : (w.getD 2 [] == kAt) with
    | false => simp
    | true =>
      cases h3 : (w.getD 4 [] == kZone) with
      | false => simp
      | true =>
        cases h4 : (w.getD 6 [] == kSub) with
        | true =>
          have h5 : (w.getD 6 [] == kSize) = false := by
            rw [beq_iff_eq.1 h4]; decide
          have hp : PfxIn (pfxParse (w.getD 7 [])).1 := pfx_in _
          rw [h5]
          simp only [if_true, Bool.true_and, Bool.and_true, Bool.not_true, Bool.false_or, Bool.not_false, Bool.and_false]
          rw [fixed_meet hp hin.edges]
          by_cases h6 : (pfxParse (w.getD 7 [])).1.bits < 1
          · rw [decide_eq_true h6, decide_eq_false (show ¬ (pfxParse (w.getD 7 [])).1.bits > 0 by omega)]; simp
          · rw [decide_eq_false h6, decide_eq_true (show (pfxParse (w.getD 7 [])).1.bits > 0 by omega)]; simp
        | false =>
          cases h5 : (w.getD 6 [] == kSize) with
          | false => simp
          | true =>
            simp only [Bool.and_true, Bool.not_true, Bool.false_or, Bool.not_false, Bool.false_and, Bool.and_false, Bool.false_eq_true, if_false]
            cases h6 : digitsB (w.getD 7 []) with
            | false => rw [tnum_4 h6]; simp
            | true =>
              cases h7 : (number (w.getD 7 []) 1 32).2 with
              | false => rw [tnum_r h6 h7]; simp
              | true => rw [tnum_ok h6 h7]; simp
theorem qLine_eq {t : Topo} {told : Bool} {w : List Str} (ht : TLim t) (hin : PIn t) : qLine t told w = pLine t told w := by
  unfold qLine pLine
  by_cases h1 : w.getD 0 [] = kDev
  · rw [if_pos (by rw [h1]; rfl), if_pos h1, qDev_eq ht h1]
  rw [if_neg (by simpa using h1), if_neg h1]
  by_cases h2 : w.getD 0 [] = kLink
  · rw [if_pos (by rw [h2]; rfl), if_pos h2, qLink_eq ht h2]
  rw [if_neg (by simpa using h2), if_neg h2]
  by_cases h3 : w.getD 0 [] = kEdge
  · rw [if_pos (by rw [h3]; rfl), if_pos h3, qEdge_eq ht hin h3]
  rw [if_neg (by simpa using h3), if_neg h3]
  by_cases h5 : w.getD 0 [] = kPool
  · rw [if_pos h5]
    by_cases hl : w.length = 2
    · have e1 : ((w.length : Int) != 2) = false := by simp; omega
      rw [e1, h5, if_neg (by decide), if_pos (by decide), qPool_eq ht hin hl h5]
    · have e1 : ((w.length : Int) != 2) = true := by simp; omega
      have e2 : ((w.length : Int) == 2) = false := by simp; omega
      rw [e1, if_pos (by simp), pPool, form_pool, e2]; rfl
  rw [if_neg h5]
  by_cases h6 : w.getD 0 [] = kTol
  · rw [if_pos h6]
    by_cases hl : w.length = 2
    · have e1 : ((w.length : Int) != 2) = false := by simp; omega
      rw [e1, h6, if_neg (by decide), if_neg (by decide), qTol_eq hl h6]
    · have e1 : ((w.length : Int) != 2) = true := by simp; omega
      have e2 : ((w.length : Int) == 2) = false := by simp; omega
      rw [e1, if_pos (by simp), pTol, form_tol, e2]; rfl
  · rw [if_neg h6, if_pos]
    have e1 : (w.getD 0 [] == kPool) = false := by simpa using h5
    have e2 : (w.getD 0 [] == kTol) = false := by simpa using h6
    rw [e1, e2]; simp
end Go.Proofs.YtdehdgbdcfkpbaaGreatDoor
