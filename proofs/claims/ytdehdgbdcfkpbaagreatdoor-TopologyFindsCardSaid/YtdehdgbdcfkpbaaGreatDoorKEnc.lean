/-
  The data of topologies as plain Lean data, and as pure values.
-/
import Derived.Test.YtdehdgbdcfkpbaaGreatDoorKEnts
import Derived.Test.YtdehdgbdcfkpbaaGreatDoorJPwLoop
namespace Go.Proofs.YtdehdgbdcfkpbaaGreatDoor
open Go Go.Pw
abbrev Str := List UInt8
structure TDev where
  name : Str
  cap : Int
  rng : Bool
  vol : Bool
  cls : Str
structure TLink where
  a : Int
  b : Int
  cost : Int
structure TPfx where
  addr : Int
  bits : Int
structure TEdge where
  name : Str
  dev : Int
  zone : Str
  pfx : TPfx
  planned : Bool
structure Topo where
  devs : List TDev
  links : List TLink
  edges : List TEdge
  pools : List TPfx
  tol : Int
def eDev (d : TDev) : PV := .agg [.str d.name, .int .i64 d.cap, .bool d.rng, .bool d.vol, .str d.cls]
def eLink (l : TLink) : PV := .agg [.int .i64 l.a, .int .i64 l.b, .int .i64 l.cost]
def ePfx (p : TPfx) : PV := .agg [.int .u32 p.addr, .int .i64 p.bits]
def eEdge (e : TEdge) : PV := .agg [.str e.name, .int .i64 e.dev, .str e.zone, .int .u32 e.pfx.addr, .int .i64 e.pfx.bits, .bool e.planned]
def eInt (n : Int) : PV := .int .i64 n
def eStr (s : Str) : PV := .str s
def eTopo (t : Topo) : PV := .agg [.sl (t.devs.map eDev), .sl (t.links.map eLink), .sl (t.edges.map eEdge), .sl (t.pools.map ePfx), .int .i64 t.tol]
/-- Where a list first has a property, as Go says it. -/
def firstAt {α : Type} (p : α → Bool) (l : List α) : Int := match l.findIdx? p with | some i => (i : Int) | none => -1
theorem firstAt_hit {α : Type} {p : α → Bool} {l : List α} {i : Nat} (hi : i < l.length) (h1 : p l[i] = true) (h0 : ∀ (j : Nat) x, j < i → l[j]? = some x → p x = false) : firstAt p l = (i : Int) := by
  unfold firstAt
  rw [show l.findIdx? p = some i from ?_]
  rw [List.findIdx?_eq_some_iff_getElem]
  exact ⟨hi, h1, fun j hj => by simpa using h0 j _ hj (List.getElem?_eq_getElem (by omega))⟩
theorem firstAt_miss {α : Type} {p : α → Bool} {l : List α} (h0 : ∀ (j : Nat) x, l[j]? = some x → p x = false) : firstAt p l = -1 := by
  unfold firstAt
  rw [show l.findIdx? p = none from ?_]
  rw [List.findIdx?_eq_none_iff]
  intro x hx
  obtain ⟨j, hj⟩ := List.mem_iff_getElem?.1 hx
  exact h0 j x hj
theorem firstAt_any {α : Type} {p : α → Bool} {l : List α} : l.any p = decide (firstAt p l ≥ 0) := by
  unfold firstAt
  cases h : l.findIdx? p with
  | none =>
    rw [List.findIdx?_eq_none_iff] at h
    have : l.any p = false := by rw [List.any_eq_false]; intro x hx; simpa using h x hx
    simp [this]
  | some i =>
    rw [List.findIdx?_eq_some_iff_getElem] at h
    obtain ⟨hi, h1, _⟩ := h
    have : l.any p = true := List.any_eq_true.2 ⟨_, List.getElem_mem hi, h1⟩
    simp [this]
/-- The places below n at which a list has a property. -/
def selTo {α : Type} (p : α → Bool) (l : List α) : Nat → List Int
  | 0 => []
  | n + 1 => selTo p l n ++ match l[n]? with | some x => (match p x with | true => [(n : Int)] | false => []) | none => []
def idxs {α : Type} (p : α → Bool) (l : List α) : List Int := selTo p l l.length
theorem selTo_yes {α : Type} {p : α → Bool} {l : List α} {n : Nat} {x : α} (h : l[n]? = some x) (hp : p x = true) : selTo p l (n + 1) = selTo p l n ++ [(n : Int)] := by simp [selTo, h, hp]
theorem selTo_no {α : Type} {p : α → Bool} {l : List α} {n : Nat} {x : α} (h : l[n]? = some x) (hp : p x = false) : selTo p l (n + 1) = selTo p l n := by simp [selTo, h, hp]
theorem selTo_len {α : Type} (p : α → Bool) (l : List α) : ∀ n, (selTo p l n).length ≤ n
  | 0 => Nat.le_refl _
  | n + 1 => by
    have := selTo_len p l n
    simp only [selTo, List.length_append]
    split
    · split <;> simp <;> omega
    · simp; omega
/-- A length that Go's numbers hold with room. -/
def Small {α : Type} (l : List α) : Prop := l.length < 2 ^ 40
end Go.Proofs.YtdehdgbdcfkpbaaGreatDoor
