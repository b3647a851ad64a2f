/-
  Contracts of functions, walked over pure values.
-/
import Derived.Test.YtdehdgbdcfkpbaaGreatDoorKB10
import Derived.Test.YtdehdgbdcfkpbaaGreatDoorKB11
import Derived.Test.YtdehdgbdcfkpbaaGreatDoorKB12
namespace Go.Proofs.YtdehdgbdcfkpbaaGreatDoor
open Go Go.Pw
variable {Gl : Glob}
attribute [local irreducible] PW PWL OpP PCalls PWO
set_option maxHeartbeats 20000000
set_option maxRecDepth 100000

/-! ### topology.Parse -/
def kDev : Str := [100, 101, 118, 105, 99, 101]
def kLink : Str := [108, 105, 110, 107]
def kEdge : Str := [101, 100, 103, 101]
def kPool : Str := [112, 111, 111, 108]
def kTol : Str := [116, 111, 108, 101, 114, 97, 116, 101]
def pLine (t : Topo) (told : Bool) (w : List Str) : LineR :=
  if w.getD 0 [] = kDev then pDev t told w else if w.getD 0 [] = kLink then pLink t told w else if w.getD 0 [] = kEdge then pEdge t told w else if w.getD 0 [] = kPool then pPool t told w else
  if w.getD 0 [] = kTol then pTol t told w else (4, t, told)
def topo0 : Topo := ⟨[], [], [], [], 0⟩
structure TLim (t : Topo) : Prop where
  devs : t.devs.length ≤ 12
  links : t.links.length ≤ 24
  edges : t.edges.length ≤ 12
  pools : t.pools.length ≤ 8
theorem TLim.ok {t : Topo} (h : TLim t) : TOk t := ⟨by have := h.devs; unfold Small; omega, by have := h.links; unfold Small; omega, by have := h.edges; unfold Small; omega, by have := h.pools; unfold Small; omega⟩
theorem pTol_lim {t : Topo} (h : TLim t) (told : Bool) (w : List Str) : TLim (pTol t told w).2.1 := by
  unfold pTol
  split
  · exact h
  · split
    · exact h
    · split
      · exact h
      · exact ⟨h.devs, h.links, h.edges, h.pools⟩
theorem pPool_lim {t : Topo} (h : TLim t) (told : Bool) (w : List Str) : TLim (pPool t told w).2.1 := by
  unfold pPool
  split
  · exact h
  · split
    · exact h
    · split
      · exact h
      · split
        · exact h
        · rename_i h4
          exact ⟨h.devs, h.links, h.edges, by simp at h4 ⊢; omega⟩
theorem pLink_lim {t : Topo} (h : TLim t) (told : Bool) (w : List Str) : TLim (pLink t told w).2.1 := by
  unfold pLink
  split
  · exact h
  · split
    · exact h
    · split
      · exact h
      · split
        · exact h
        · split
          · exact h
          · rename_i h4
            exact ⟨h.devs, by simp at h4 ⊢; omega, h.edges, h.pools⟩
theorem pEdge_lim {t : Topo} (h : TLim t) (told : Bool) (w : List Str) : TLim (pEdge t told w).2.1 := by
  unfold pEdge
  repeat' (split; · exact h)
  rename_i h4
  exact ⟨h.devs, h.links, by simp at h4 ⊢; omega, h.pools⟩
theorem pDev_lim {t : Topo} (h : TLim t) (told : Bool) (w : List Str) : TLim (pDev t told w).2.1 := by
  unfold pDev
  repeat' (split; · exact h)
  rename_i h4
  exact ⟨by simp at h4 ⊢; omega, h.links, h.edges, h.pools⟩
theorem pLine_lim {t : Topo} (h : TLim t) (told : Bool) (w : List Str) : TLim (pLine t told w).2.1 := by
  unfold pLine
  split
  · exact pDev_lim h told w
  · split
    · exact pLink_lim h told w
    · split
      · exact pEdge_lim h told w
      · split
        · exact pPool_lim h told w
        · split
          · exact pTol_lim h told w
          · exact h
/-- The lines, one after another: the error, the number of its line, and the topology. -/
def pRun : List TLine → Topo → Bool → Int × Int × Topo
  | [], t, _ => (0, 0, t)
  | l :: ls, t, told => match (pLine t told l.words).1 != 0 with
    | true => ((pLine t told l.words).1, l.num, topo0)
    | false => pRun ls (pLine t told l.words).2.1 (pLine t told l.words).2.2
/-- topology.Parse: the topology, the line's number, the error. -/
def pEnd (x : Int × Int × Topo) : Topo × Int × Int := if x.1 != 0 then (topo0, x.2.1, x.1) else if x.2.2.devs.length = 0 then (topo0, 0, 19) else (x.2.2, 0, 0)
def tParse (s : Str) : Topo × Int × Int := if (lines s).2.2 != 0 then (topo0, (lines s).2.1, (lines s).2.2) else pEnd (pRun (lines s).1 topo0 false)
/-- What lines are like. -/
structure LOk (l : List TLine) : Prop where
  some : ∀ x ∈ l, 0 < x.words.length
  ok : ∀ x ∈ l, WOk x.words
  few : l.length < 2 ^ 30
end Go.Proofs.YtdehdgbdcfkpbaaGreatDoor
