/-
  Every function with a body is entered by a call; printed by a program of mine.
  The data of topologies as plain Lean data, and as pure values.
-/
import Derived.Test.YtdehdgbdcfkpbaaGreatDoorKTab
import Derived.Test.YtdehdgbdcfkpbaaGreatDoorJPwDraw
import Derived.Test.YtdehdgbdcfkpbaaGreatDoorJPwLoop
namespace Go.Proofs.YtdehdgbdcfkpbaaGreatDoor
open Go Go.Pw
theorem e2 : Enters Tryz.prog 2 := Enters.of Tryz.func2 (by kernel_rfl) rfl
theorem e3 : Enters Tryz.prog 3 := Enters.of Tryz.func3 (by kernel_rfl) rfl
theorem e4 : Enters Tryz.prog 4 := Enters.of Tryz.func4 (by kernel_rfl) rfl
theorem e5 : Enters Tryz.prog 5 := Enters.of Tryz.func5 (by kernel_rfl) rfl
theorem e6 : Enters Tryz.prog 6 := Enters.of Tryz.func6 (by kernel_rfl) rfl
theorem e7 : Enters Tryz.prog 7 := Enters.of Tryz.func7 (by kernel_rfl) rfl
theorem e8 : Enters Tryz.prog 8 := Enters.of Tryz.func8 (by kernel_rfl) rfl
theorem e9 : Enters Tryz.prog 9 := Enters.of Tryz.func9 (by kernel_rfl) rfl
theorem e10 : Enters Tryz.prog 10 := Enters.of Tryz.func10 (by kernel_rfl) rfl
theorem e11 : Enters Tryz.prog 11 := Enters.of Tryz.func11 (by kernel_rfl) rfl
theorem e12 : Enters Tryz.prog 12 := Enters.of Tryz.func12 (by kernel_rfl) rfl
theorem e13 : Enters Tryz.prog 13 := Enters.of Tryz.func13 (by kernel_rfl) rfl
theorem e14 : Enters Tryz.prog 14 := Enters.of Tryz.func14 (by kernel_rfl) rfl
theorem e15 : Enters Tryz.prog 15 := Enters.of Tryz.func15 (by kernel_rfl) rfl
theorem e16 : Enters Tryz.prog 16 := Enters.of Tryz.func16 (by kernel_rfl) rfl
theorem e17 : Enters Tryz.prog 17 := Enters.of Tryz.func17 (by kernel_rfl) rfl
theorem e18 : Enters Tryz.prog 18 := Enters.of Tryz.func18 (by kernel_rfl) rfl
theorem e19 : Enters Tryz.prog 19 := Enters.of Tryz.func19 (by kernel_rfl) rfl
theorem e20 : Enters Tryz.prog 20 := Enters.of Tryz.func20 (by kernel_rfl) rfl
theorem e21 : Enters Tryz.prog 21 := Enters.of Tryz.func21 (by kernel_rfl) rfl
theorem e22 : Enters Tryz.prog 22 := Enters.of Tryz.func22 (by kernel_rfl) rfl
theorem e23 : Enters Tryz.prog 23 := Enters.of Tryz.func23 (by kernel_rfl) rfl
theorem e24 : Enters Tryz.prog 24 := Enters.of Tryz.func24 (by kernel_rfl) rfl
theorem e25 : Enters Tryz.prog 25 := Enters.of Tryz.func25 (by kernel_rfl) rfl
theorem e26 : Enters Tryz.prog 26 := Enters.of Tryz.func26 (by kernel_rfl) rfl
theorem e27 : Enters Tryz.prog 27 := Enters.of Tryz.func27 (by kernel_rfl) rfl
theorem e28 : Enters Tryz.prog 28 := Enters.of Tryz.func28 (by kernel_rfl) rfl
theorem e29 : Enters Tryz.prog 29 := Enters.of Tryz.func29 (by kernel_rfl) rfl
theorem e30 : Enters Tryz.prog 30 := Enters.of Tryz.func30 (by kernel_rfl) rfl
theorem e31 : Enters Tryz.prog 31 := Enters.of Tryz.func31 (by kernel_rfl) rfl
theorem e32 : Enters Tryz.prog 32 := Enters.of Tryz.func32 (by kernel_rfl) rfl
theorem e33 : Enters Tryz.prog 33 := Enters.of Tryz.func33 (by kernel_rfl) rfl
theorem e34 : Enters Tryz.prog 34 := Enters.of Tryz.func34 (by kernel_rfl) rfl
theorem e35 : Enters Tryz.prog 35 := Enters.of Tryz.func35 (by kernel_rfl) rfl
theorem e36 : Enters Tryz.prog 36 := Enters.of Tryz.func36 (by kernel_rfl) rfl
theorem e37 : Enters Tryz.prog 37 := Enters.of Tryz.func37 (by kernel_rfl) rfl
theorem e38 : Enters Tryz.prog 38 := Enters.of Tryz.func38 (by kernel_rfl) rfl
theorem e39 : Enters Tryz.prog 39 := Enters.of Tryz.func39 (by kernel_rfl) rfl
theorem e40 : Enters Tryz.prog 40 := Enters.of Tryz.func40 (by kernel_rfl) rfl
theorem e41 : Enters Tryz.prog 41 := Enters.of Tryz.func41 (by kernel_rfl) rfl
theorem e42 : Enters Tryz.prog 42 := Enters.of Tryz.func42 (by kernel_rfl) rfl
theorem e43 : Enters Tryz.prog 43 := Enters.of Tryz.func43 (by kernel_rfl) rfl
theorem e44 : Enters Tryz.prog 44 := Enters.of Tryz.func44 (by kernel_rfl) rfl
theorem e45 : Enters Tryz.prog 45 := Enters.of Tryz.func45 (by kernel_rfl) rfl
theorem e46 : Enters Tryz.prog 46 := Enters.of Tryz.func46 (by kernel_rfl) rfl
theorem e47 : Enters Tryz.prog 47 := Enters.of Tryz.func47 (by kernel_rfl) rfl
theorem e48 : Enters Tryz.prog 48 := Enters.of Tryz.func48 (by kernel_rfl) rfl
theorem e49 : Enters Tryz.prog 49 := Enters.of Tryz.func49 (by kernel_rfl) rfl
theorem e50 : Enters Tryz.prog 50 := Enters.of Tryz.func50 (by kernel_rfl) rfl
theorem e51 : Enters Tryz.prog 51 := Enters.of Tryz.func51 (by kernel_rfl) rfl
theorem e52 : Enters Tryz.prog 52 := Enters.of Tryz.func52 (by kernel_rfl) rfl
theorem e53 : Enters Tryz.prog 53 := Enters.of Tryz.func53 (by kernel_rfl) rfl
theorem e54 : Enters Tryz.prog 54 := Enters.of Tryz.func54 (by kernel_rfl) rfl
theorem e55 : Enters Tryz.prog 55 := Enters.of Tryz.func55 (by kernel_rfl) rfl
theorem e56 : Enters Tryz.prog 56 := Enters.of Tryz.func56 (by kernel_rfl) rfl
theorem e57 : Enters Tryz.prog 57 := Enters.of Tryz.func57 (by kernel_rfl) rfl
theorem e58 : Enters Tryz.prog 58 := Enters.of Tryz.func58 (by kernel_rfl) rfl
theorem e59 : Enters Tryz.prog 59 := Enters.of Tryz.func59 (by kernel_rfl) rfl
theorem e60 : Enters Tryz.prog 60 := Enters.of Tryz.func60 (by kernel_rfl) rfl
theorem e61 : Enters Tryz.prog 61 := Enters.of Tryz.func61 (by kernel_rfl) rfl
theorem e62 : Enters Tryz.prog 62 := Enters.of Tryz.func62 (by kernel_rfl) rfl
theorem e63 : Enters Tryz.prog 63 := Enters.of Tryz.func63 (by kernel_rfl) rfl
theorem e64 : Enters Tryz.prog 64 := Enters.of Tryz.func64 (by kernel_rfl) rfl
theorem e65 : Enters Tryz.prog 65 := Enters.of Tryz.func65 (by kernel_rfl) rfl
theorem e66 : Enters Tryz.prog 66 := Enters.of Tryz.func66 (by kernel_rfl) rfl
theorem e67 : Enters Tryz.prog 67 := Enters.of Tryz.func67 (by kernel_rfl) rfl
theorem e68 : Enters Tryz.prog 68 := Enters.of Tryz.func68 (by kernel_rfl) rfl
theorem e69 : Enters Tryz.prog 69 := Enters.of Tryz.func69 (by kernel_rfl) rfl
theorem e70 : Enters Tryz.prog 70 := Enters.of Tryz.func70 (by kernel_rfl) rfl
theorem e71 : Enters Tryz.prog 71 := Enters.of Tryz.func71 (by kernel_rfl) rfl
theorem e72 : Enters Tryz.prog 72 := Enters.of Tryz.func72 (by kernel_rfl) rfl
theorem e73 : Enters Tryz.prog 73 := Enters.of Tryz.func73 (by kernel_rfl) rfl
theorem e74 : Enters Tryz.prog 74 := Enters.of Tryz.func74 (by kernel_rfl) rfl
theorem e75 : Enters Tryz.prog 75 := Enters.of Tryz.func75 (by kernel_rfl) rfl
theorem e76 : Enters Tryz.prog 76 := Enters.of Tryz.func76 (by kernel_rfl) rfl
theorem e77 : Enters Tryz.prog 77 := Enters.of Tryz.func77 (by kernel_rfl) rfl
theorem e78 : Enters Tryz.prog 78 := Enters.of Tryz.func78 (by kernel_rfl) rfl
theorem e79 : Enters Tryz.prog 79 := Enters.of Tryz.func79 (by kernel_rfl) rfl
theorem e80 : Enters Tryz.prog 80 := Enters.of Tryz.func80 (by kernel_rfl) rfl
theorem e81 : Enters Tryz.prog 81 := Enters.of Tryz.func81 (by kernel_rfl) rfl
theorem e82 : Enters Tryz.prog 82 := Enters.of Tryz.func82 (by kernel_rfl) rfl
theorem e83 : Enters Tryz.prog 83 := Enters.of Tryz.func83 (by kernel_rfl) rfl
theorem e84 : Enters Tryz.prog 84 := Enters.of Tryz.func84 (by kernel_rfl) rfl
theorem e85 : Enters Tryz.prog 85 := Enters.of Tryz.func85 (by kernel_rfl) rfl
theorem e86 : Enters Tryz.prog 86 := Enters.of Tryz.func86 (by kernel_rfl) rfl
theorem e87 : Enters Tryz.prog 87 := Enters.of Tryz.func87 (by kernel_rfl) rfl
theorem e88 : Enters Tryz.prog 88 := Enters.of Tryz.func88 (by kernel_rfl) rfl
theorem e89 : Enters Tryz.prog 89 := Enters.of Tryz.func89 (by kernel_rfl) rfl
theorem e90 : Enters Tryz.prog 90 := Enters.of Tryz.func90 (by kernel_rfl) rfl
theorem e91 : Enters Tryz.prog 91 := Enters.of Tryz.func91 (by kernel_rfl) rfl
theorem e92 : Enters Tryz.prog 92 := Enters.of Tryz.func92 (by kernel_rfl) rfl
theorem e93 : Enters Tryz.prog 93 := Enters.of Tryz.func93 (by kernel_rfl) rfl
theorem e94 : Enters Tryz.prog 94 := Enters.of Tryz.func94 (by kernel_rfl) rfl
theorem e95 : Enters Tryz.prog 95 := Enters.of Tryz.func95 (by kernel_rfl) rfl
theorem e96 : Enters Tryz.prog 96 := Enters.of Tryz.func96 (by kernel_rfl) rfl
theorem e97 : Enters Tryz.prog 97 := Enters.of Tryz.func97 (by kernel_rfl) rfl
theorem e98 : Enters Tryz.prog 98 := Enters.of Tryz.func98 (by kernel_rfl) rfl
theorem e99 : Enters Tryz.prog 99 := Enters.of Tryz.func99 (by kernel_rfl) rfl
theorem e100 : Enters Tryz.prog 100 := Enters.of Tryz.func100 (by kernel_rfl) rfl
theorem e101 : Enters Tryz.prog 101 := Enters.of Tryz.func101 (by kernel_rfl) rfl
theorem e102 : Enters Tryz.prog 102 := Enters.of Tryz.func102 (by kernel_rfl) rfl
theorem e103 : Enters Tryz.prog 103 := Enters.of Tryz.func103 (by kernel_rfl) rfl
theorem e104 : Enters Tryz.prog 104 := Enters.of Tryz.func104 (by kernel_rfl) rfl
theorem e105 : Enters Tryz.prog 105 := Enters.of Tryz.func105 (by kernel_rfl) rfl
theorem e106 : Enters Tryz.prog 106 := Enters.of Tryz.func106 (by kernel_rfl) rfl
theorem e107 : Enters Tryz.prog 107 := Enters.of Tryz.func107 (by kernel_rfl) rfl
theorem e108 : Enters Tryz.prog 108 := Enters.of Tryz.func108 (by kernel_rfl) rfl
theorem e109 : Enters Tryz.prog 109 := Enters.of Tryz.func109 (by kernel_rfl) rfl
theorem e110 : Enters Tryz.prog 110 := Enters.of Tryz.func110 (by kernel_rfl) rfl
theorem e111 : Enters Tryz.prog 111 := Enters.of Tryz.func111 (by kernel_rfl) rfl
theorem e112 : Enters Tryz.prog 112 := Enters.of Tryz.func112 (by kernel_rfl) rfl
theorem e113 : Enters Tryz.prog 113 := Enters.of Tryz.func113 (by kernel_rfl) rfl
theorem e114 : Enters Tryz.prog 114 := Enters.of Tryz.func114 (by kernel_rfl) rfl
theorem e115 : Enters Tryz.prog 115 := Enters.of Tryz.func115 (by kernel_rfl) rfl
theorem e116 : Enters Tryz.prog 116 := Enters.of Tryz.func116 (by kernel_rfl) rfl
theorem e117 : Enters Tryz.prog 117 := Enters.of Tryz.func117 (by kernel_rfl) rfl
theorem e118 : Enters Tryz.prog 118 := Enters.of Tryz.func118 (by kernel_rfl) rfl
theorem e119 : Enters Tryz.prog 119 := Enters.of Tryz.func119 (by kernel_rfl) rfl
theorem e120 : Enters Tryz.prog 120 := Enters.of Tryz.func120 (by kernel_rfl) rfl
theorem e121 : Enters Tryz.prog 121 := Enters.of Tryz.func121 (by kernel_rfl) rfl
theorem e122 : Enters Tryz.prog 122 := Enters.of Tryz.func122 (by kernel_rfl) rfl
theorem e123 : Enters Tryz.prog 123 := Enters.of Tryz.func123 (by kernel_rfl) rfl
theorem e124 : Enters Tryz.prog 124 := Enters.of Tryz.func124 (by kernel_rfl) rfl
theorem e125 : Enters Tryz.prog 125 := Enters.of Tryz.func125 (by kernel_rfl) rfl
theorem e126 : Enters Tryz.prog 126 := Enters.of Tryz.func126 (by kernel_rfl) rfl
theorem e127 : Enters Tryz.prog 127 := Enters.of Tryz.func127 (by kernel_rfl) rfl
theorem e128 : Enters Tryz.prog 128 := Enters.of Tryz.func128 (by kernel_rfl) rfl
theorem e129 : Enters Tryz.prog 129 := Enters.of Tryz.func129 (by kernel_rfl) rfl
theorem e130 : Enters Tryz.prog 130 := Enters.of Tryz.func130 (by kernel_rfl) rfl
theorem e131 : Enters Tryz.prog 131 := Enters.of Tryz.func131 (by kernel_rfl) rfl
theorem e132 : Enters Tryz.prog 132 := Enters.of Tryz.func132 (by kernel_rfl) rfl
theorem e133 : Enters Tryz.prog 133 := Enters.of Tryz.func133 (by kernel_rfl) rfl
theorem e134 : Enters Tryz.prog 134 := Enters.of Tryz.func134 (by kernel_rfl) rfl
theorem e135 : Enters Tryz.prog 135 := Enters.of Tryz.func135 (by kernel_rfl) rfl
theorem e136 : Enters Tryz.prog 136 := Enters.of Tryz.func136 (by kernel_rfl) rfl
theorem e137 : Enters Tryz.prog 137 := Enters.of Tryz.func137 (by kernel_rfl) rfl
theorem e138 : Enters Tryz.prog 138 := Enters.of Tryz.func138 (by kernel_rfl) rfl
theorem e139 : Enters Tryz.prog 139 := Enters.of Tryz.func139 (by kernel_rfl) rfl
theorem e140 : Enters Tryz.prog 140 := Enters.of Tryz.func140 (by kernel_rfl) rfl
theorem e141 : Enters Tryz.prog 141 := Enters.of Tryz.func141 (by kernel_rfl) rfl
theorem e142 : Enters Tryz.prog 142 := Enters.of Tryz.func142 (by kernel_rfl) rfl
theorem e143 : Enters Tryz.prog 143 := Enters.of Tryz.func143 (by kernel_rfl) rfl
theorem e144 : Enters Tryz.prog 144 := Enters.of Tryz.func144 (by kernel_rfl) rfl
theorem e145 : Enters Tryz.prog 145 := Enters.of Tryz.func145 (by kernel_rfl) rfl
theorem e146 : Enters Tryz.prog 146 := Enters.of Tryz.func146 (by kernel_rfl) rfl
theorem e147 : Enters Tryz.prog 147 := Enters.of Tryz.func147 (by kernel_rfl) rfl
theorem e148 : Enters Tryz.prog 148 := Enters.of Tryz.func148 (by kernel_rfl) rfl
theorem e149 : Enters Tryz.prog 149 := Enters.of Tryz.func149 (by kernel_rfl) rfl
theorem e150 : Enters Tryz.prog 150 := Enters.of Tryz.func150 (by kernel_rfl) rfl
theorem e151 : Enters Tryz.prog 151 := Enters.of Tryz.func151 (by kernel_rfl) rfl
theorem e152 : Enters Tryz.prog 152 := Enters.of Tryz.func152 (by kernel_rfl) rfl
theorem e153 : Enters Tryz.prog 153 := Enters.of Tryz.func153 (by kernel_rfl) rfl
theorem e155 : Enters Tryz.prog 155 := Enters.of Tryz.func155 (by kernel_rfl) rfl
theorem e156 : Enters Tryz.prog 156 := Enters.of Tryz.func156 (by kernel_rfl) rfl
theorem e157 : Enters Tryz.prog 157 := Enters.of Tryz.func157 (by kernel_rfl) rfl
theorem e159 : Enters Tryz.prog 159 := Enters.of Tryz.func159 (by kernel_rfl) rfl
theorem e160 : Enters Tryz.prog 160 := Enters.of Tryz.func160 (by kernel_rfl) rfl
theorem e161 : Enters Tryz.prog 161 := Enters.of Tryz.func161 (by kernel_rfl) rfl
theorem e162 : Enters Tryz.prog 162 := Enters.of Tryz.func162 (by kernel_rfl) rfl
theorem e163 : Enters Tryz.prog 163 := Enters.of Tryz.func163 (by kernel_rfl) rfl
theorem e164 : Enters Tryz.prog 164 := Enters.of Tryz.func164 (by kernel_rfl) rfl
theorem e165 : Enters Tryz.prog 165 := Enters.of Tryz.func165 (by kernel_rfl) rfl
theorem e166 : Enters Tryz.prog 166 := Enters.of Tryz.func166 (by kernel_rfl) rfl
theorem e167 : Enters Tryz.prog 167 := Enters.of Tryz.func167 (by kernel_rfl) rfl
theorem e169 : Enters Tryz.prog 169 := Enters.of Tryz.func169 (by kernel_rfl) rfl
theorem e170 : Enters Tryz.prog 170 := Enters.of Tryz.func170 (by kernel_rfl) rfl
theorem e172 : Enters Tryz.prog 172 := Enters.of Tryz.func172 (by kernel_rfl) rfl
theorem e173 : Enters Tryz.prog 173 := Enters.of Tryz.func173 (by kernel_rfl) rfl
theorem e174 : Enters Tryz.prog 174 := Enters.of Tryz.func174 (by kernel_rfl) rfl
theorem e175 : Enters Tryz.prog 175 := Enters.of Tryz.func175 (by kernel_rfl) rfl
theorem e176 : Enters Tryz.prog 176 := Enters.of Tryz.func176 (by kernel_rfl) rfl
theorem e177 : Enters Tryz.prog 177 := Enters.of Tryz.func177 (by kernel_rfl) rfl
theorem e179 : Enters Tryz.prog 179 := Enters.of Tryz.func179 (by kernel_rfl) rfl
theorem e180 : Enters Tryz.prog 180 := Enters.of Tryz.func180 (by kernel_rfl) rfl
theorem e181 : Enters Tryz.prog 181 := Enters.of Tryz.func181 (by kernel_rfl) rfl
theorem e206 : Enters Tryz.prog 206 := Enters.of Tryz.func206 (by kernel_rfl) rfl
theorem hmix : Tryz.prog.follows .mixedOrders = true := by kernel_rfl
end Go.Proofs.YtdehdgbdcfkpbaaGreatDoor
namespace Go.Proofs.YtdehdgbdcfkpbaaGreatDoor
open Go Go.Pw
abbrev Str := List UInt8
structure TDev where
  name : Str
  cap : Int
  rng : Bool
  vol : Bool
  cls : Str
structure TLink where
  a : Int
  b : Int
  cost : Int
structure TPfx where
  addr : Int
  bits : Int
structure TEdge where
  name : Str
  dev : Int
  zone : Str
  pfx : TPfx
  planned : Bool
structure Topo where
  devs : List TDev
  links : List TLink
  edges : List TEdge
  pools : List TPfx
  tol : Int
def eDev (d : TDev) : PV := .agg [.str d.name, .int .i64 d.cap, .bool d.rng, .bool d.vol, .str d.cls]
def eLink (l : TLink) : PV := .agg [.int .i64 l.a, .int .i64 l.b, .int .i64 l.cost]
def ePfx (p : TPfx) : PV := .agg [.int .u32 p.addr, .int .i64 p.bits]
def eEdge (e : TEdge) : PV := .agg [.str e.name, .int .i64 e.dev, .str e.zone, .int .u32 e.pfx.addr, .int .i64 e.pfx.bits, .bool e.planned]
def eInt (n : Int) : PV := .int .i64 n
def eStr (s : Str) : PV := .str s
def eTopo (t : Topo) : PV := .agg [.sl (t.devs.map eDev), .sl (t.links.map eLink), .sl (t.edges.map eEdge), .sl (t.pools.map ePfx), .int .i64 t.tol]
/-- Where a list first has a property, as Go says it. -/
def firstAt {α : Type} (p : α → Bool) (l : List α) : Int := match l.findIdx? p with | some i => (i : Int) | none => -1
theorem firstAt_hit {α : Type} {p : α → Bool} {l : List α} {i : Nat} (hi : i < l.length) (h1 : p l[i] = true) (h0 : ∀ (j : Nat) x, j < i → l[j]? = some x → p x = false) : firstAt p l = (i : Int) := by
  unfold firstAt
  rw [show l.findIdx? p = some i from ?_]
  rw [List.findIdx?_eq_some_iff_getElem]
  exact ⟨hi, h1, fun j hj => by simpa using h0 j _ hj (List.getElem?_eq_getElem (by omega))⟩
theorem firstAt_miss {α : Type} {p : α → Bool} {l : List α} (h0 : ∀ (j : Nat) x, l[j]? = some x → p x = false) : firstAt p l = -1 := by
  unfold firstAt
  rw [show l.findIdx? p = none from ?_]
  rw [List.findIdx?_eq_none_iff]
  intro x hx
  obtain ⟨j, hj⟩ := List.mem_iff_getElem?.1 hx
  exact h0 j x hj
theorem firstAt_any {α : Type} {p : α → Bool} {l : List α} : l.any p = decide (firstAt p l ≥ 0) := by
  unfold firstAt
  cases h : l.findIdx? p with
  | none =>
    rw [List.findIdx?_eq_none_iff] at h
    have : l.any p = false := by rw [List.any_eq_false]; intro x hx; simpa using h x hx
    simp [this]
  | some i =>
    rw [List.findIdx?_eq_some_iff_getElem] at h
    obtain ⟨hi, h1, _⟩ := h
    have : l.any p = true := List.any_eq_true.2 ⟨_, List.getElem_mem hi, h1⟩
    simp [this]
/-- The places below n at which a list has a property. -/
def selTo {α : Type} (p : α → Bool) (l : List α) : Nat → List Int
  | 0 => []
  | n + 1 => selTo p l n ++ match l[n]? with | some x => (match p x with | true => [(n : Int)] | false => []) | none => []
def idxs {α : Type} (p : α → Bool) (l : List α) : List Int := selTo p l l.length
theorem selTo_yes {α : Type} {p : α → Bool} {l : List α} {n : Nat} {x : α} (h : l[n]? = some x) (hp : p x = true) : selTo p l (n + 1) = selTo p l n ++ [(n : Int)] := by simp [selTo, h, hp]
theorem selTo_no {α : Type} {p : α → Bool} {l : List α} {n : Nat} {x : α} (h : l[n]? = some x) (hp : p x = false) : selTo p l (n + 1) = selTo p l n := by simp [selTo, h, hp]
theorem selTo_len {α : Type} (p : α → Bool) (l : List α) : ∀ n, (selTo p l n).length ≤ n
  | 0 => Nat.le_refl _
  | n + 1 => by
    have := selTo_len p l n
    simp only [selTo, List.length_append]
    split
    · split <;> simp <;> omega
    · simp; omega
/-- A length that Go's numbers hold with room. -/
def Small {α : Type} (l : List α) : Prop := l.length < 2 ^ 40
end Go.Proofs.YtdehdgbdcfkpbaaGreatDoor
