/-
  Contracts of functions, walked over pure values.
-/
import Derived.Test.YtkaobkjcjodffaaGreatDoorKK13
import Derived.Test.YtkaobkjcjodffaaGreatDoorKK7
import Derived.Test.YtkaobkjcjodffaaGreatDoorKK5
import Derived.Test.YtkaobkjcjodffaaGreatDoorJPwGlob
import Derived.Test.YtkaobkjcjodffaaGreatDoorJPwMap
import Derived.Test.YtkaobkjcjodffaaGreatDoorKB6
import Derived.Test.YtkaobkjcjodffaaGreatDoorKM3
import Derived.Test.YtkaobkjcjodffaaGreatDoorJPwEq
namespace Go.Proofs.YtkaobkjcjodffaaGreatDoor
open Go Go.Pw
def wOkB (l : List TRng) : Bool := decide (((wFormat l).length : Int) > 0) && decide ((((wFormat l).length : Int) + 1) / 3 ≤ 16)
def pWin (l : List TWin) (w : List Str) : Int × List TWin :=
  if ((w.length : Int) < 3 ∨ ¬ vname (w.getD 1 []) = true) ∨ ¬ w.getD 2 [] = [61] then (4, l) else
  if ¬ (wParse (w.drop 3)).2 = 0 then ((wParse (w.drop 3)).2, l) else
  if ¬ wOkB (wParse (w.drop 3)).1 = true then (3, l) else
  if 0 ≤ firstAt (fun d => d.name == w.getD 1 []) l then (6, l) else
  if 32 ≤ l.length then (3, l) else (0, l ++ [⟨w.getD 1 [], (wParse (w.drop 3)).1⟩])
theorem wFormat_len (l : List TRng) : (wFormat l).length ≤ 21 * (l.length + 1) + 1 := by
  unfold wFormat
  split
  · rename_i h
    split
    · simp
    · have := wDays_len (can_ivalid h).1 7 (by omega)
      omega
  · simp
theorem canon_in {l : List TRng} (h : ∀ r ∈ l, RIn r) : ∀ r ∈ canon l, RIn r := by
  intro r hr
  have hc := (canon_ok l).1
  have hm := (canon_ok l).2
  have hle := hc.le r hr
  obtain ⟨x, hx, h1, _⟩ := (hm r.lo).1 ⟨r, hr, Int.le_refl _, hle⟩
  obtain ⟨y, hy, _, h2⟩ := (hm r.hi).1 ⟨r, hr, hle, Int.le_refl _⟩
  have h3 := h x hx
  have h4 := h y hy
  unfold RIn at *
  omega
theorem mstep_all_len : ∀ (d out : List TRng), (d.foldl mstep out).length ≤ out.length + d.length
  | [], out => by simp
  | r :: d, out => by
    have := mstep_all_len d (mstep out r)
    have := mstep_len out r
    simp only [List.foldl_cons, List.length_cons]
    omega
theorem canon_len (l : List TRng) : (canon l).length ≤ l.length := by
  unfold canon mergeAll
  refine Nat.le_trans (mstep_all_len _ _) ?_
  have h1 := (List.mergeSort_perm (l.filter fun r => decide (r.lo ≤ r.hi)) fun a b => decide (a.lo ≤ b.lo)).length_eq
  have h2 := List.length_filter_le (fun r => decide (r.lo ≤ r.hi)) l
  simp only [List.length_nil]
  omega
theorem wRun_ok : ∀ (n : Nat) (ws : List Str) (out : List TRng) (k : Nat), ws.length ≤ n → (∀ r ∈ out, RIn r) → out.length ≤ 7 * k → ∀ q, wRun ws out k = some q → (∀ r ∈ q.1, RIn r) ∧ q.1.length ≤ 7 * q.2
  | 0, ws, out, k, hn, h1, h2, q, h => by
    have : ws = [] := List.length_eq_zero_iff.1 (by omega)
    subst this
    simp [wRun] at h
  | n + 1, ws, out, k, hn, h1, h2, q, h => by
    match ws, hn, h with
    | [], _, h => simp [wRun] at h
    | [_], _, h => simp [wRun] at h
    | [d, t], hn, h =>
      simp only [wRun] at h
      split at h
      · cases h
      · rename_i hh
        have s1 : spanOk d = true := by cases e : spanOk d <;> simp_all
        have s2 : timeOk t = true := by cases e : timeOk t <;> simp_all
        have hin := itemRs_in s1 s2
        have hl := itemRs_len d t
        have f1 := span_facts _ s1
        have g1 : ∀ r ∈ out ++ itemRs d t, RIn r := fun r hr => by
          rcases List.mem_append.1 hr with hr | hr
          · exact h1 r hr
          · exact (hin r hr).1
        have g2 : (out ++ itemRs d t).length ≤ 7 * (k + 1) := by rw [List.length_append]; omega
        cases h
        exact ⟨g1, g2⟩
    | d :: t :: c :: rest, hn, h =>
      simp only [wRun] at h
      split at h
      · cases h
      · rename_i hh
        have s1 : spanOk d = true := by cases e : spanOk d <;> simp_all
        have s2 : timeOk t = true := by cases e : timeOk t <;> simp_all
        have hin := itemRs_in s1 s2
        have hl := itemRs_len d t
        have f1 := span_facts _ s1
        have g1 : ∀ r ∈ out ++ itemRs d t, RIn r := fun r hr => by
          rcases List.mem_append.1 hr with hr | hr
          · exact h1 r hr
          · exact (hin r hr).1
        have g2 : (out ++ itemRs d t).length ≤ 7 * (k + 1) := by rw [List.length_append]; omega
        split at h
        · exact wRun_ok n _ _ _ (by simp only [List.length_cons] at hn ⊢; omega) g1 g2 q h
        · cases h
theorem wParse_ok (ws : List Str) : (∀ r ∈ (wParse ws).1, RIn r) ∧ (wParse ws).1.length ≤ 112 := by
  unfold wParse
  split
  · simp
  · unfold wEnd
    split
    · simp
    · rename_i out n h
      have := wRun_ok _ ws [] 0 (Nat.le_refl _) (by simp) (by simp) _ h
      split
      · simp
      · refine ⟨canon_in this.1, ?_⟩
        have := canon_len out
        dsimp only at *
        omega
end Go.Proofs.YtkaobkjcjodffaaGreatDoor
namespace Go.Proofs.YtkaobkjcjodffaaGreatDoor
open Go Go.Pw
variable {Gl : Glob}
attribute [local irreducible] PW PWL OpP PCalls PWO formB vname digitsB addr portsT number wParse wFormat
set_option maxHeartbeats 20000000
set_option maxRecDepth 100000
instance (ws : List Str) : ConF Tryz.prog Gl 98 [.sl (ws.map .str)] (GM Gl ∧ GD Gl ∧ ws.length < 1000000 ∧ ∀ k, (ws.getD k []).length < 4294967281) (.tup [.sl ((wParse ws).1.map eRng), .int .i64 (wParse ws).2]) := ⟨e98, fun h => c_wParse h.1 h.2.1 ws h.2.2.1 h.2.2.2⟩
instance (l : List TRng) : ConF Tryz.prog Gl 109 [.sl (l.map eRng)] (GD Gl ∧ l.length < 100000 ∧ ∀ r ∈ l, RIn r) (.sl ((wFormat l).map .str)) := ⟨e109, fun h => c_wFormat h.1 l h.2.1 h.2.2⟩
theorem c_written (hD' : GD Gl) (l : List TRng) (hl : l.length < 100000) (hin : ∀ r ∈ l, RIn r) : PFun Tryz.prog Gl 61 [.sl (l.map eRng)] fun r => r = .tup [.sl ((wFormat l).map .str), .bool (wOkB l)] := by
  (refine PFun.of hT Tryz.func61 rfl fun B hD => ?_; refine pw_norm rfl ?_)
  have hfl := wFormat_len l
  (repeat' (first | refine zS ?_ | refine zlA1 rfl rfl rfl rfl zB rfl rfl (zNp ?_) | refine zlO1 rfl rfl rfl rfl zB rfl rfl (zNp ?_) | refine zlA2 rfl rfl rfl rfl zB rfl rfl (zNp ?_) | refine zlO2 rfl rfl rfl rfl zB rfl rfl (zNp ?_) | refine zlA3 rfl rfl rfl rfl zB rfl rfl (zNp ?_) | refine zlO3 rfl rfl rfl rfl zB rfl rfl (zNp ?_) | (refine pw_test rfl rfl zB ?_ ?_ <;> intro h <;> first | (exfalso; omega) | refine zNq ?_)))
  exact ret2 _ rfl rfl rfl
instance (l : List TRng) : ConF Tryz.prog Gl 61 [.sl (l.map eRng)] (GD Gl ∧ l.length < 100000 ∧ ∀ r ∈ l, RIn r) (.tup [.sl ((wFormat l).map .str), .bool (wOkB l)]) := ⟨e61, fun h => c_written h.1 l h.2.1 h.2.2⟩
attribute [local irreducible] wOkB
theorem c_readWindow (hG : GM Gl) (hD' : GD Gl) (i : TInt) (hi : i.windows.length ≤ 32) (c : ICaps) (w : List Str) (hw : WOk w) (hl : w.length ≤ 1000) : PCalls Tryz.prog Gl 47 [.ptr 0 0, .sl (w.map .str)] (ist i c) fun r s => ∃ c', r = .int .i64 (pWin i.windows w).1 ∧ s = ist { i with windows := (pWin i.windows w).2 } c' := by
  refine PCalls.of hT Tryz.func47 rfl 7 (Nat.le_refl _) fun B hD => ?_
  unfold ist
  refine pw_norm rfl ?_
  have hd := RdOk.drop hl hw.at 3
  obtain ⟨hd1, hd2⟩ := hd
  obtain ⟨hp1, hp2⟩ := wParse_ok (w.drop 3)
  have hlg : (i.windows.map eWin).length = i.windows.length := List.length_map ..
  have hsm : Small i.windows := by unfold Small; omega
  (repeat' (first | (refine pw_draw [(0, true), (1, true), (2, true), (3, true), (4, true), (5, true), (6, true), (7, true), (8, true), (9, true), (10, true), (11, false), (12, true), (13, true), (14, false)] hmix (by decide +kernel) ?_; refine zDn ?_) | (refine pw_draw [(0, true), (1, true), (2, true), (3, true), (4, true), (5, true), (6, true), (7, false), (8, true), (9, true)] hmix (by decide +kernel) ?_; refine zDn ?_) | refine zS ?_ | refine zD ?_ | refine po_both ?_ ?_ | refine Go.Pw.pwt_both ?_ ?_ | refine Go.Pw.pwt_fork ?_ | refine Go.Pw.pwt_lin ?_ | (refine po_test rfl rfl rfl rfl zB ?_ ?_ <;> intro hb <;> first | (exfalso; omega) | refine zDn ?_) | refine zlA1 rfl rfl rfl rfl zB rfl rfl (zNp ?_) | refine zlO1 rfl rfl rfl rfl zB rfl rfl (zNp ?_) | refine zlA2 rfl rfl rfl rfl zB rfl rfl (zNp ?_) | refine zlO2 rfl rfl rfl rfl zB rfl rfl (zNp ?_) | refine zlA3 rfl rfl rfl rfl zB rfl rfl (zNp ?_) | refine zlO3 rfl rfl rfl rfl zB rfl rfl (zNp ?_) | (refine pw_test rfl rfl zB ?_ ?_ <;> intro h <;> first | (exfalso; omega) | refine zNq ?_)))
  · rw [show pWin i.windows w = (4, i.windows) from by unfold pWin; (repeat (first | refine (if_pos (by assumption)).trans ?_ | refine (if_neg (by assumption)).trans ?_)); rfl]
    exact ⟨_, _, _, rfl, ⟨c, rfl, rfl⟩, .inr (.inl rfl), ⟨.inr (.inl rfl), .inr (.inl rfl), .inr (.inl rfl), .inr (.inl rfl), .inr (.inl rfl), .inr (.inl rfl), .inr (.inl rfl), trivial⟩, rfl, rfl⟩
  · rw [show pWin i.windows w = ((wParse (w.drop 3)).2, i.windows) from by unfold pWin; (repeat (first | refine (if_pos (by assumption)).trans ?_ | refine (if_neg (by assumption)).trans ?_)); rfl]
    exact ⟨_, _, _, rfl, ⟨c, rfl, rfl⟩, .inr (.inl rfl), ⟨.inr (.inl rfl), .inr (.inl rfl), .inr (.inl rfl), .inr (.inl rfl), .inr (.inl rfl), .inr (.inl rfl), .inr (.inl rfl), trivial⟩, rfl, rfl⟩
  · rw [show pWin i.windows w = (3, i.windows) from by unfold pWin; rename_i g1 g2; rw [if_neg g1, if_neg g2, if_pos h]]
    exact ⟨_, _, _, rfl, ⟨c, rfl, rfl⟩, .inr (.inl rfl), ⟨.inr (.inl rfl), .inr (.inl rfl), .inr (.inl rfl), .inr (.inl rfl), .inr (.inl rfl), .inr (.inl rfl), .inr (.inl rfl), trivial⟩, rfl, rfl⟩
  · rename_i g1 g2 g3
    rw [show pWin i.windows w = (6, i.windows) from by unfold pWin; rw [if_neg g1, if_neg g2, if_neg g3, if_pos (show 0 ≤ firstAt (fun d : TWin => d.name == w.getD 1 []) i.windows from h)]]
    exact ⟨_, _, _, rfl, ⟨c, rfl, rfl⟩, .inr (.inl rfl), ⟨.inr (.inl rfl), .inr (.inl rfl), .inr (.inl rfl), .inr (.inl rfl), .inr (.inl rfl), .inr (.inl rfl), .inr (.inl rfl), trivial⟩, rfl, rfl⟩
  · rename_i g1 g2 g3 g4
    rw [show pWin i.windows w = (3, i.windows) from by unfold pWin; rw [if_neg g1, if_neg g2, if_neg g3, if_neg (show ¬ 0 ≤ firstAt (fun d : TWin => d.name == w.getD 1 []) i.windows from g4), if_pos (by omega)]]
    exact ⟨_, _, _, rfl, ⟨c, rfl, rfl⟩, .inr (.inl rfl), ⟨.inr (.inl rfl), .inr (.inl rfl), .inr (.inl rfl), .inr (.inl rfl), .inr (.inl rfl), .inr (.inl rfl), .inr (.inl rfl), trivial⟩, rfl, rfl⟩
  · rename_i g1 g2 g3 g4
    rw [show pWin i.windows w = (0, i.windows ++ [⟨w.getD 1 [], (wParse (w.drop 3)).1⟩]) from by unfold pWin; rw [if_neg g1, if_neg g2, if_neg g3, if_neg (show ¬ 0 ≤ firstAt (fun d : TWin => d.name == w.getD 1 []) i.windows from g4), if_neg (by omega)]]
    (refine po_step rfl rfl (op_append (b := 40) hT rfl rfl rfl rfl rfl rfl (.inl (Nat.zero_lt_succ _)) rfl rfl (by simp; omega) (fun cap' _ hcap => ⟨zLok, ?_⟩)); refine zDn ?_)
    refine zD ?_
    (refine pw_mv 3 7 hD rfl rfl rfl rfl rfl ?_; refine pw_norm rfl ?_)
    (repeat' (first | refine zS ?_ | refine zlA1 rfl rfl rfl rfl zB rfl rfl (zNp ?_) | refine zlO1 rfl rfl rfl rfl zB rfl rfl (zNp ?_) | refine zlA2 rfl rfl rfl rfl zB rfl rfl (zNp ?_) | refine zlO2 rfl rfl rfl rfl zB rfl rfl (zNp ?_) | refine zlA3 rfl rfl rfl rfl zB rfl rfl (zNp ?_) | refine zlO3 rfl rfl rfl rfl zB rfl rfl (zNp ?_) | (refine pw_test rfl rfl zB ?_ ?_ <;> intro h <;> first | (exfalso; omega) | refine zNq ?_)))
    refine ⟨_, _, _, rfl, ⟨(c.1, c.2.1, cap', c.2.2.2), rfl, rfl⟩, .inr (.inl rfl), ?_, rfl, rfl⟩
    simp only [List.map_append, List.length_append]
    exact ⟨.inr (.inl rfl), .inr (.inl rfl), .inr (.inl rfl), .inr (.inl rfl), .inr (.inl rfl), .inr (.inl rfl), .inr (.inl rfl), trivial⟩
end Go.Proofs.YtkaobkjcjodffaaGreatDoor
namespace Go.Proofs.YtkaobkjcjodffaaGreatDoor
open Go Go.Pw
variable {Gl : Glob}
attribute [local irreducible] PW PWL OpP PCalls PWO vname pvalid rvalid
set_option maxHeartbeats 20000000
set_option maxRecDepth 100000
def eqI (x y : TItem) : Bool := (x.kind == y.kind) && ((x.name == y.name) && (((x.pfx.addr == y.pfx.addr) && ((x.pfx.bits == y.pfx.bits) && true)) && ((x.proto == y.proto) && (((x.ports.lo == y.ports.lo) && ((x.ports.hi == y.ports.hi) && true)) && true))))
def eqR (x y : TRng) : Bool := (x.lo == y.lo) && ((x.hi == y.hi) && true)
def vPorts (proto : Int) (p : TRng) : Bool := if proto = 6 ∨ proto = 17 then decide (p.lo ≤ p.hi) && decide (p.hi ≤ 65535) else if proto = 1 then eqR p ⟨8, 8⟩ else (decide (proto ≥ 0) && decide (proto ≤ 255)) && eqR p rng0
theorem c_validPorts (proto : Int) (p : TRng) : PFun Tryz.prog Gl 156 [.int .i64 proto, eRng p] fun r => r = .bool (vPorts proto p) := by
  (refine PFun.of hT Tryz.func156 rfl fun B hD => ?_; refine pw_norm rfl ?_)
  unfold vPorts
  (repeat' (first | refine zS ?_ | refine zlA1 rfl rfl rfl rfl zB rfl rfl (zNp ?_) | refine zlO1 rfl rfl rfl rfl zB rfl rfl (zNp ?_) | refine zlA2 rfl rfl rfl rfl zB rfl rfl (zNp ?_) | refine zlO2 rfl rfl rfl rfl zB rfl rfl (zNp ?_) | refine zlA3 rfl rfl rfl rfl zB rfl rfl (zNp ?_) | refine zlO3 rfl rfl rfl rfl zB rfl rfl (zNp ?_) | (refine pw_test rfl rfl zB ?_ ?_ <;> intro h <;> first | (exfalso; omega) | refine zNq ?_)))
  · rw [if_pos (.inl h)]; exact ret2 _ rfl rfl rfl
  · rw [if_pos (.inr h)]; exact ret2 _ rfl rfl rfl
  · rename_i g1 g2; rw [if_neg (by rintro (q | q); exact g1 q; exact g2 q), if_pos h]; exact ret2 _ rfl rfl rfl
  · rename_i g1 g2; rw [if_neg (by rintro (q | q); exact g1 q; exact g2 q), if_neg h]; exact ret2 _ rfl rfl rfl
instance iValidPorts (proto : Int) (p : TRng) : ConF Tryz.prog Gl 156 [.int .i64 proto, .agg [.int .u32 p.lo, .int .u32 p.hi]] True (.bool (vPorts proto p)) := ⟨e156, fun _ => c_validPorts proto p⟩
instance iPValid (p : TPfx) : ConF Tryz.prog Gl 148 [.agg [.int .u32 p.addr, .int .i64 p.bits]] True (.bool (pvalid p)) := ⟨e148, fun _ => c45 p⟩
def vItem (x : TItem) (sv : Bool) : Bool :=
  if x.kind = 1 then (!sv && vname x.name) && eqI x ⟨x.kind, x.name, pfx0, 0, rng0⟩ else
  if x.kind = 2 then (!sv && pvalid x.pfx) && eqI x ⟨x.kind, [], x.pfx, 0, rng0⟩ else
  if x.kind = 3 then vname x.name && eqI x ⟨x.kind, x.name, pfx0, 0, rng0⟩ else
  if x.kind = 4 then (sv && vPorts x.proto x.ports) && eqI x ⟨x.kind, [], pfx0, x.proto, x.ports⟩ else false
theorem c_validItem (x : TItem) (sv : Bool) : PFun Tryz.prog Gl 117 [eItem x, .bool sv] fun r => r = .bool (vItem x sv) := by
  (refine PFun.of hT Tryz.func117 rfl fun B hD => ?_; refine pw_norm rfl ?_)
  unfold vItem
  (repeat' (first | refine zS ?_ | refine zlA1 rfl rfl rfl rfl zB rfl rfl (zNp ?_) | refine zlO1 rfl rfl rfl rfl zB rfl rfl (zNp ?_) | refine zlA2 rfl rfl rfl rfl zB rfl rfl (zNp ?_) | refine zlO2 rfl rfl rfl rfl zB rfl rfl (zNp ?_) | refine zlA3 rfl rfl rfl rfl zB rfl rfl (zNp ?_) | refine zlO3 rfl rfl rfl rfl zB rfl rfl (zNp ?_) | (refine pw_test rfl rfl zB ?_ ?_ <;> intro h <;> first | (exfalso; omega) | refine zNq ?_)))
  · rw [if_pos h]; exact ret2 _ rfl rfl rfl
  · rename_i g1; rw [if_neg g1, if_pos h]; exact ret2 _ rfl rfl rfl
  · rename_i g1 g2; rw [if_neg g1, if_neg g2, if_pos h]; exact ret2 _ rfl rfl rfl
  · rename_i g1 g2 g3; rw [if_neg g1, if_neg g2, if_neg g3, if_pos h]; exact ret2 _ rfl rfl rfl
  · rename_i g1 g2 g3; rw [if_neg g1, if_neg g2, if_neg g3, if_neg h]; exact ret2 _ rfl rfl rfl
instance iValidItem (x : TItem) (sv : Bool) : ConF Tryz.prog Gl 117 [eItem x, .bool sv] True (.bool (vItem x sv)) := ⟨e117, fun _ => c_validItem x sv⟩
end Go.Proofs.YtkaobkjcjodffaaGreatDoor
namespace Go.Proofs.YtkaobkjcjodffaaGreatDoor
open Go Go.Pw
variable {Gl : Glob}
attribute [local irreducible] PW PWL OpP PCalls PWO vname
set_option maxHeartbeats 20000000
set_option maxRecDepth 100000
def okName (s : Str) : Bool := (s == []) || vname s
theorem c_emptyOrName (s : Str) : PFun Tryz.prog Gl 121 [.str s] fun r => r = .bool (okName s) := by
  (refine PFun.of hT Tryz.func121 rfl fun B hD => ?_; refine pw_norm rfl ?_)
  (repeat' (first | refine zS ?_ | refine zlA1 rfl rfl rfl rfl zB rfl rfl (zNp ?_) | refine zlO1 rfl rfl rfl rfl zB rfl rfl (zNp ?_) | refine zlA2 rfl rfl rfl rfl zB rfl rfl (zNp ?_) | refine zlO2 rfl rfl rfl rfl zB rfl rfl (zNp ?_) | refine zlA3 rfl rfl rfl rfl zB rfl rfl (zNp ?_) | refine zlO3 rfl rfl rfl rfl zB rfl rfl (zNp ?_) | (refine pw_test rfl rfl zB ?_ ?_ <;> intro h <;> first | (exfalso; omega) | refine zNq ?_)))
  exact ret2 _ rfl rfl rfl
instance iEmptyOrName (s : Str) : ConF Tryz.prog Gl 121 [.str s] True (.bool (okName s)) := ⟨e121, fun _ => c_emptyOrName s⟩
attribute [local irreducible] okName
def stmNames (s : TStm) : List Str := [s.src, s.dst, s.service, s.cls, s.during, s.exSrc, s.exDst]
def stmRest (s : TStm) : Bool := (((s.permit || s.cls == []) && (s.excepted || (s.exSrc == [] && s.exDst == []))) && decide (s.prio ≥ 0)) && decide (s.prio ≤ 1000)
def vStm (s : TStm) : Bool := (stmNames s).all okName && stmRest s
theorem stmRest_alt (s : TStm) : ((((s.excepted || (s.exSrc == [] && s.exDst == [])) && (s.permit || s.cls == [])) && decide (s.prio ≥ 0)) && decide (s.prio ≤ 1000)) = stmRest s := by
  unfold stmRest
  rw [Bool.and_comm (s.excepted || (s.exSrc == [] && s.exDst == []))]
theorem c_validStm (s : TStm) : PFun Tryz.prog Gl 73 [eStm s] fun r => r = .bool (vStm s) := by
  (refine PFun.of hT Tryz.func73 rfl fun B hD => ?_; refine pw_norm rfl ?_)
  unfold vStm
  (repeat' (first | refine zS ?_ | refine zlA1 rfl rfl rfl rfl zB rfl rfl (zNp ?_) | refine zlO1 rfl rfl rfl rfl zB rfl rfl (zNp ?_) | refine zlA2 rfl rfl rfl rfl zB rfl rfl (zNp ?_) | refine zlO2 rfl rfl rfl rfl zB rfl rfl (zNp ?_) | refine zlA3 rfl rfl rfl rfl zB rfl rfl (zNp ?_) | refine zlO3 rfl rfl rfl rfl zB rfl rfl (zNp ?_) | (refine pw_test rfl rfl zB ?_ ?_ <;> intro h <;> first | (exfalso; omega) | refine zNq ?_)))
  rw [show [PV.str s.src, .str s.dst, .str s.service, .str s.cls, .str s.during, .str s.exSrc, .str s.exDst] = (stmNames s).map PV.str from rfl]
  have hl : (stmNames s).length = 7 := rfl
  refine pw_for hD (fun i : Nat => [(22, .int .i64 i)]) (fun _ => [.box [.bool s.permit, .str s.src, .str s.dst, .str s.service, .bool s.excepted, .str s.exSrc, .str s.exDst, .str s.cls, .str s.during, .int .i64 s.prio]]) (fun i => i ≤ 7 ∧ ∀ j, j < i → okName ((stmNames s).getD j []) = true) (fun i => 7 - i) 0 ⟨by omega, fun j h => by omega⟩ 1 rfl (fun _ => rfl) (by (exact zLes)) (fun _ => rfl) (fun _ => rfl) (by (exact zLe)) ?_
  rintro i ⟨hi, hc⟩
  generalize hL : stmNames s = L at hl hc ⊢
  have hl2 : (L.map PV.str).length = 7 := by rw [List.length_map]; exact hl
  (repeat' (first | refine zS ?_ | refine zlA1 rfl rfl rfl rfl zB rfl rfl (zNp ?_) | refine zlO1 rfl rfl rfl rfl zB rfl rfl (zNp ?_) | refine zlA2 rfl rfl rfl rfl zB rfl rfl (zNp ?_) | refine zlO2 rfl rfl rfl rfl zB rfl rfl (zNp ?_) | refine zlA3 rfl rfl rfl rfl zB rfl rfl (zNp ?_) | refine zlO3 rfl rfl rfl rfl zB rfl rfl (zNp ?_) | (refine pw_test rfl rfl zB ?_ ?_ <;> intro h <;> first | (exfalso; omega) | refine zNq ?_)))
  · have e : L.all okName = false := by
      rw [List.all_eq_false]
      refine ⟨L.getD i [], ?_, h⟩
      rw [List.getD, List.getElem?_eq_getElem (by omega)]
      exact List.getElem_mem _
    rw [e]
    exact ret2 _ rfl rfl rfl
  · refine ⟨i + 1, ⟨by omega, fun j hj => ?_⟩, by omega, by (exact zLe), by (exact zLes)⟩
    rcases Nat.lt_succ_iff_lt_or_eq.1 hj with hj | rfl
    · exact hc j hj
    · exact Decidable.not_not.1 h
  · have e : L.all okName = true := List.all_eq_true.2 fun x hx => by
      obtain ⟨j, hj⟩ := List.mem_iff_getElem?.1 hx
      have := hc j (by have := (List.getElem?_eq_some_iff.1 hj).1; omega)
      rwa [List.getD, hj] at this
    rw [e, Bool.true_and, ← stmRest_alt]
    exact ret2 _ rfl rfl rfl
instance iValidStm (s : TStm) : ConF Tryz.prog Gl 73 [eStm s] True (.bool (vStm s)) := ⟨e73, fun _ => c_validStm s⟩
end Go.Proofs.YtkaobkjcjodffaaGreatDoor
namespace Go.Proofs.YtkaobkjcjodffaaGreatDoor
open Go Go.Pw
variable {Gl : Glob}
attribute [local irreducible] PW PWL OpP PCalls PWO vname vItem
set_option maxHeartbeats 20000000
set_option maxRecDepth 100000
def dHead (l : List TDef) (i : Nat) : Bool := ((vname (l.getD i default).name && decide (firstAt (fun x : TDef => x.name == (l.getD i default).name) l = i)) && decide (1 ≤ (l.getD i default).items.length)) && decide ((l.getD i default).items.length ≤ 16)
def dOk (l : List TDef) (sv : Bool) (i : Nat) : Bool := dHead l i && (l.getD i default).items.all fun x => vItem x sv
def vDefs (l : List TDef) (sv : Bool) : Bool := decide (l.length ≤ 32) && (List.range l.length).all (dOk l sv)
theorem getD_memD {α : Type} [Inhabited α] {L : List α} {k : Nat} (h : k < L.length) : L.getD k default ∈ L := by
  rw [List.getD, List.getElem?_eq_getElem h]; exact List.getElem_mem h
theorem dHead_iff (l : List TDef) (i : Nat) : dHead l i = true ↔ ¬ (((¬ vname (l.getD i default).name = true ∨ ¬ firstAt (fun x : TDef => x.name == (l.getD i default).name) l = i) ∨ ((l.getD i default).items.length : Int) < 1) ∨ ((l.getD i default).items.length : Int) > 16) := by
  unfold dHead
  simp only [Bool.and_eq_true, decide_eq_true_eq]
  constructor
  · rintro ⟨⟨⟨a, b⟩, c⟩, d⟩ (((q | q) | q) | q)
    · exact q a
    · exact q b
    · omega
    · omega
  · intro q
    refine ⟨⟨⟨Decidable.not_not.1 fun a => q (.inl (.inl (.inl a))), Decidable.not_not.1 fun a => q (.inl (.inl (.inr a)))⟩, Decidable.not_not.1 fun a => q (.inl (.inr (by omega)))⟩, Decidable.not_not.1 fun a => q (.inr (by omega))⟩
theorem dOk_fail {l : List TDef} {sv : Bool} {i : Nat} (hi : i < l.length) (h : dOk l sv i = false) : (List.range l.length).all (dOk l sv) = false :=
  List.all_eq_false.2 ⟨i, List.mem_range.2 hi, by rw [h]; decide⟩
end Go.Proofs.YtkaobkjcjodffaaGreatDoor
namespace Go.Proofs.YtkaobkjcjodffaaGreatDoor
open Go Go.Pw
variable {Gl : Glob}
attribute [local irreducible] PW PWL OpP PCalls PWO
set_option maxHeartbeats 20000000
set_option maxRecDepth 100000
structure IBig (t : TInt) : Prop where
  groups : t.groups.length < 1000000
  services : t.services.length < 1000000
  windows : t.windows.length < 1000000
  stms : t.stms.length < 1000000
  pubs : t.pubs.length < 1000000
  hids : t.hids.length < 1000000
  gitems : ∀ d ∈ t.groups, d.items.length < 1000000
  sitems : ∀ d ∈ t.services, d.items.length < 1000000
  active : ∀ d ∈ t.windows, d.active.length < 1000000
end Go.Proofs.YtkaobkjcjodffaaGreatDoor
namespace Go.Proofs.YtkaobkjcjodffaaGreatDoor
open Go Go.Pw
variable {Gl : Glob}
attribute [local irreducible] PW PWL OpP PCalls PWO vname vDefs vStm wOkB
set_option maxHeartbeats 20000000
set_option maxRecDepth 100000
def wWin (l : List TWin) (k : Nat) : Bool := (vname (l.getD k default).name && decide (firstAt (fun x : TWin => x.name == (l.getD k default).name) l = k)) && wOkB (l.getD k default).active
def vPub (x : TPub) : Bool := (((x.proto == 6 || x.proto == 17) && (decide (x.port ≥ 0) && decide (x.port ≤ 65535))) && (decide (x.realPort ≥ 0) && decide (x.realPort ≤ 65535))) && vname x.edge
def vHid (x : THid) : Bool := (vname x.group && vname x.edge) && ((decide (x.ports.lo ≥ 1024) && decide (x.ports.lo ≤ x.ports.hi)) && decide (x.ports.hi ≤ 65535))
def iValid (i : TInt) : Bool :=
  (((((vDefs i.groups false && vDefs i.services true) && decide (i.windows.length ≤ 32)) && decide (i.stms.length ≤ 64)) && decide (i.pubs.length ≤ 16)) && decide (i.hids.length ≤ 8)) &&
  ((((List.range i.windows.length).all (wWin i.windows) && i.stms.all vStm) && i.pubs.all vPub) && i.hids.all vHid)
end Go.Proofs.YtkaobkjcjodffaaGreatDoor
namespace Go.Proofs.YtkaobkjcjodffaaGreatDoor
open Go Go.Pw
variable {Gl : Glob}
attribute [local irreducible] PW PWL OpP PCalls PWO vname vItem vStm wFormat
set_option maxHeartbeats 20000000
set_option maxRecDepth 100000
instance iValidItem' (x : TItem) (sv : Bool) : ConF Tryz.prog Gl 117 [.agg [.int .i64 x.kind, .str x.name, .int .u32 x.pfx.addr, .int .i64 x.pfx.bits, .int .i64 x.proto, .int .u32 x.ports.lo, .int .u32 x.ports.hi], .bool sv] True (.bool (vItem x sv)) := ⟨e117, fun _ => c_validItem x sv⟩
theorem c_validDefs (l : List TDef) (sv : Bool) (hl : l.length < 1000000) (hb : ∀ d ∈ l, d.items.length < 1000000) : PFun Tryz.prog Gl 67 [.sl (l.map eDef), .bool sv] fun r => r = .bool (vDefs l sv) := by
  (refine PFun.of hT Tryz.func67 rfl fun B hD => ?_; refine pw_norm rfl ?_)
  have hat : ∀ i, (l.getD i default).items.length < 1000000 := fun i => by
    rw [List.getD]
    cases h : l[i]? with
    | none => exact (by decide : (0 : Nat) < 1000000)
    | some x => exact hb x (List.mem_of_getElem? h)
  have hsm : Small l := by unfold Small; omega
  unfold vDefs
  (repeat' (first | refine zS ?_ | refine zlA1 rfl rfl rfl rfl zB rfl rfl (zNp ?_) | refine zlO1 rfl rfl rfl rfl zB rfl rfl (zNp ?_) | refine zlA2 rfl rfl rfl rfl zB rfl rfl (zNp ?_) | refine zlO2 rfl rfl rfl rfl zB rfl rfl (zNp ?_) | refine zlA3 rfl rfl rfl rfl zB rfl rfl (zNp ?_) | refine zlO3 rfl rfl rfl rfl zB rfl rfl (zNp ?_) | (refine pw_test rfl rfl zB ?_ ?_ <;> intro h <;> first | (exfalso; omega) | refine zNq ?_)))
  refine pw_for hD (fun i : Nat => [(11, .int .i64 i)]) (fun _ => []) (fun i => i ≤ l.length ∧ ∀ j, j < i → dOk l sv j = true) (fun i => l.length - i) 0 ⟨Nat.zero_le _, fun j h => by omega⟩ 0 rfl (fun _ => rfl) (by (exact zLes)) (fun _ => rfl) (fun _ => rfl) (by (exact zLe)) ?_
  rintro i ⟨hi, hc⟩
  have hat := hat i
  (repeat' (first | refine zS ?_ | refine zlA1 rfl rfl rfl rfl zB rfl rfl (zNp ?_) | refine zlO1 rfl rfl rfl rfl zB rfl rfl (zNp ?_) | refine zlA2 rfl rfl rfl rfl zB rfl rfl (zNp ?_) | refine zlO2 rfl rfl rfl rfl zB rfl rfl (zNp ?_) | refine zlA3 rfl rfl rfl rfl zB rfl rfl (zNp ?_) | refine zlO3 rfl rfl rfl rfl zB rfl rfl (zNp ?_) | (refine pw_test rfl rfl zB ?_ ?_ <;> intro h <;> first | (exfalso; omega) | refine zNq ?_)))
  · have e : dOk l sv i = false := by
      unfold dOk
      rw [show dHead l i = false from by
        rw [Bool.eq_false_iff]
        intro q
        have q := (dHead_iff l i).1 q
        rcases h with ((h | h) | h) | h
        · exact q (.inl (.inl (.inl h)))
        · exact q (.inl (.inr (by omega)))
        · exact q (.inr h)
        · exact q (.inl (.inl (.inr h))), Bool.false_and]
    rw [dOk_fail (by omega) e, Bool.and_false]
    exact ret2 _ rfl rfl rfl
  · have hh : dHead l i = true := (dHead_iff l i).2 (by
      rintro (((q | q) | q) | q)
      · exact h (.inl (.inl (.inl q)))
      · exact h (.inr q)
      · exact h (.inl (.inl (.inr (by omega))))
      · exact h (.inl (.inr q)))
    refine pw_for hD (fun k : Nat => [(43, .int .i64 k)]) (fun _ => [.box [.str (l.getD i default).name, .sl ((l.getD i default).items.map eItem)]]) (fun k => k ≤ (l.getD i default).items.length ∧ ∀ j, j < k → vItem ((l.getD i default).items.getD j default) sv = true) (fun k => (l.getD i default).items.length - k) 0 ⟨Nat.zero_le _, fun j h => by omega⟩ 1 rfl (fun _ => rfl) (by (exact zLes)) (fun _ => rfl) (fun _ => rfl) (by (exact zLe)) ?_
    rintro k ⟨hk, hkc⟩
    (repeat' (first | refine zS ?_ | refine zlA1 rfl rfl rfl rfl zB rfl rfl (zNp ?_) | refine zlO1 rfl rfl rfl rfl zB rfl rfl (zNp ?_) | refine zlA2 rfl rfl rfl rfl zB rfl rfl (zNp ?_) | refine zlO2 rfl rfl rfl rfl zB rfl rfl (zNp ?_) | refine zlA3 rfl rfl rfl rfl zB rfl rfl (zNp ?_) | refine zlO3 rfl rfl rfl rfl zB rfl rfl (zNp ?_) | (refine pw_test rfl rfl zB ?_ ?_ <;> intro h <;> first | (exfalso; omega) | refine zNq ?_)))
    · have e : dOk l sv i = false := by
        unfold dOk
        have : ((l.getD i default).items.all fun x => vItem x sv) = false := by
          rw [List.all_eq_false]
          exact ⟨_, getD_memD (by omega), h⟩
        rw [this, Bool.and_false]
      rw [dOk_fail (by omega) e, Bool.and_false]
      exact ret2 _ rfl rfl rfl
    · refine ⟨k + 1, ⟨by omega, fun j hj => ?_⟩, by omega, by (exact zLe), by (exact zLes)⟩
      rcases Nat.lt_succ_iff_lt_or_eq.1 hj with hj | rfl
      · exact hkc j hj
      · exact Decidable.not_not.1 h
    · refine ⟨i + 1, ⟨by omega, fun j hj => ?_⟩, by omega, by (exact zLe), by (exact zLes)⟩
      rcases Nat.lt_succ_iff_lt_or_eq.1 hj with hj | rfl
      · exact hc j hj
      · unfold dOk
        rw [hh, Bool.true_and]
        refine List.all_eq_true.2 fun x hx => ?_
        obtain ⟨n, hn⟩ := List.mem_iff_getElem?.1 hx
        have := hkc n (by have := (List.getElem?_eq_some_iff.1 hn).1; omega)
        rwa [List.getD, hn] at this
  · rw [show (List.range l.length).all (dOk l sv) = true from List.all_eq_true.2 fun j hj => hc j (by have := List.mem_range.1 hj; omega), Bool.and_true]
    refine ret2 _ rfl ?_ rfl
    congr 1
    rw [decide_eq_decide]
    omega
theorem c_valid1 (n : Int) : PFun Tryz.prog Gl 70 [.int .i64 n] fun r => r = .bool (decide (n ≥ 0) && decide (n ≤ 65535)) := by
  (refine PFun.of hT Tryz.func70 rfl fun B hD => ?_; refine pw_norm rfl ?_)
  (repeat' (first | refine zS ?_ | refine zlA1 rfl rfl rfl rfl zB rfl rfl (zNp ?_) | refine zlO1 rfl rfl rfl rfl zB rfl rfl (zNp ?_) | refine zlA2 rfl rfl rfl rfl zB rfl rfl (zNp ?_) | refine zlO2 rfl rfl rfl rfl zB rfl rfl (zNp ?_) | refine zlA3 rfl rfl rfl rfl zB rfl rfl (zNp ?_) | refine zlO3 rfl rfl rfl rfl zB rfl rfl (zNp ?_) | (refine pw_test rfl rfl zB ?_ ?_ <;> intro h <;> first | (exfalso; omega) | refine zNq ?_)))
  exact ret2 _ rfl rfl rfl
instance iValid1 (n : Int) : ConF Tryz.prog Gl 70 [.int .i64 n] True (.bool (decide (n ≥ 0) && decide (n ≤ 65535))) := ⟨e70, fun _ => c_valid1 n⟩
theorem c_valid2 (s : TStm) : PFun Tryz.prog Gl 72 [eStm s] fun r => r = .bool (!vStm s) := by
  (refine PFun.of hT Tryz.func72 rfl fun B hD => ?_; refine pw_norm rfl ?_)
  (repeat' (first | refine zS ?_ | refine zlA1 rfl rfl rfl rfl zB rfl rfl (zNp ?_) | refine zlO1 rfl rfl rfl rfl zB rfl rfl (zNp ?_) | refine zlA2 rfl rfl rfl rfl zB rfl rfl (zNp ?_) | refine zlO2 rfl rfl rfl rfl zB rfl rfl (zNp ?_) | refine zlA3 rfl rfl rfl rfl zB rfl rfl (zNp ?_) | refine zlO3 rfl rfl rfl rfl zB rfl rfl (zNp ?_) | (refine pw_test rfl rfl zB ?_ ?_ <;> intro h <;> first | (exfalso; omega) | refine zNq ?_)))
  (refine pl_op rfl (op_fun (c_validStm s) rfl rfl e73 zLe rfl (fun r hr => ?_)); subst hr; refine ⟨rfl, ?_⟩; (refine zNp ?_))
  (repeat' (first | refine zS ?_ | refine zlA1 rfl rfl rfl rfl zB rfl rfl (zNp ?_) | refine zlO1 rfl rfl rfl rfl zB rfl rfl (zNp ?_) | refine zlA2 rfl rfl rfl rfl zB rfl rfl (zNp ?_) | refine zlO2 rfl rfl rfl rfl zB rfl rfl (zNp ?_) | refine zlA3 rfl rfl rfl rfl zB rfl rfl (zNp ?_) | refine zlO3 rfl rfl rfl rfl zB rfl rfl (zNp ?_) | (refine pw_test rfl rfl zB ?_ ?_ <;> intro h <;> first | (exfalso; omega) | refine zNq ?_)))
  exact ret2 _ rfl rfl rfl
theorem c_idxStm (l : List TStm) (hl : l.length < 1000000) : PFun Tryz.prog Gl 120 [.sl (l.map eStm), .fn 72 []] fun r => r = .int .i64 (firstAt (fun s => !vStm s) l) := by
  (refine PFun.of hT Tryz.func120 rfl fun B hD => ?_; refine pw_norm rfl ?_)
  (repeat' (first | refine zS ?_ | refine zlA1 rfl rfl rfl rfl zB rfl rfl (zNp ?_) | refine zlO1 rfl rfl rfl rfl zB rfl rfl (zNp ?_) | refine zlA2 rfl rfl rfl rfl zB rfl rfl (zNp ?_) | refine zlO2 rfl rfl rfl rfl zB rfl rfl (zNp ?_) | refine zlA3 rfl rfl rfl rfl zB rfl rfl (zNp ?_) | refine zlO3 rfl rfl rfl rfl zB rfl rfl (zNp ?_) | (refine pw_test rfl rfl zB ?_ ?_ <;> intro h <;> first | (exfalso; omega) | refine zNq ?_)))
  refine pw_for hD (fun i : Nat => [(8, .int .i64 i)]) (fun _ => []) (fun i => i ≤ l.length ∧ ∀ (j : Nat) d, j < i → l[j]? = some d → (!vStm d) = false) (fun i => l.length - i) 0 ⟨Nat.zero_le _, fun j d h => by omega⟩ 0 rfl (fun _ => rfl) (by (exact zLes)) (fun _ => rfl) (fun _ => rfl) (by (exact zLe)) ?_
  rintro i ⟨hi, hc⟩
  (repeat' (first | refine zS ?_ | refine zlA1 rfl rfl rfl rfl zB rfl rfl (zNp ?_) | refine zlO1 rfl rfl rfl rfl zB rfl rfl (zNp ?_) | refine zlA2 rfl rfl rfl rfl zB rfl rfl (zNp ?_) | refine zlO2 rfl rfl rfl rfl zB rfl rfl (zNp ?_) | refine zlA3 rfl rfl rfl rfl zB rfl rfl (zNp ?_) | refine zlO3 rfl rfl rfl rfl zB rfl rfl (zNp ?_) | (refine pw_test rfl rfl zB ?_ ?_ <;> intro h <;> first | (exfalso; omega) | refine zNq ?_)))
  · (refine pl_op rfl (op_fun (c_valid2 (l.getD i default)) rfl rfl e72 zLe rfl (fun r hr => ?_)); subst hr; refine ⟨rfl, ?_⟩; (refine zNp ?_))
    have hlt : i < l.length := by omega
    (repeat' (first | refine zS ?_ | refine zlA1 rfl rfl rfl rfl zB rfl rfl (zNp ?_) | refine zlO1 rfl rfl rfl rfl zB rfl rfl (zNp ?_) | refine zlA2 rfl rfl rfl rfl zB rfl rfl (zNp ?_) | refine zlO2 rfl rfl rfl rfl zB rfl rfl (zNp ?_) | refine zlA3 rfl rfl rfl rfl zB rfl rfl (zNp ?_) | refine zlO3 rfl rfl rfl rfl zB rfl rfl (zNp ?_) | (refine pw_test rfl rfl zB ?_ ?_ <;> intro h <;> first | (exfalso; omega) | refine zNq ?_)))
    · rw [firstAt_hit hlt (p := fun s => !vStm s) (by rw [List.getD, List.getElem?_eq_getElem hlt] at h; simpa using h) hc]
      exact ret2 _ rfl rfl rfl
    · refine ⟨i + 1, ⟨by omega, fun j d hj hd => ?_⟩, by omega, by (exact zLe), by (exact zLes)⟩
      rcases Nat.lt_succ_iff_lt_or_eq.1 hj with hj | rfl
      · exact hc j d hj hd
      · rw [List.getD, hd] at h; simpa using h
  · rw [firstAt_miss fun j x hj => hc j x (by have := (List.getElem?_eq_some_iff.1 hj).1; omega) hj]
    exact ret2 _ rfl rfl rfl
theorem firstAt_all (l : List TStm) : (!decide (firstAt (fun s => !vStm s) l ≥ 0)) = l.all vStm := by
  unfold firstAt
  cases h : l.findIdx? fun s => !vStm s with
  | none =>
    rw [List.findIdx?_eq_none_iff] at h
    rw [List.all_eq_true.2 fun x hx => by simpa using h x hx]
    rfl
  | some k =>
    rw [List.findIdx?_eq_some_iff_getElem] at h
    obtain ⟨hk, h1, _⟩ := h
    rw [List.all_eq_false.2 ⟨l[k], List.getElem_mem hk, by simpa using h1⟩]
    show (!decide ((k : Int) ≥ 0)) = false
    rw [decide_eq_true (by omega)]
    rfl
instance iIdxStm (l : List TStm) : ConF Tryz.prog Gl 120 [.sl (l.map eStm), .fn 72 []] (l.length < 1000000) (.int .i64 (firstAt (fun s => !vStm s) l)) := ⟨e120, fun h => c_idxStm l h⟩
theorem c_hasStm (l : List TStm) (hl : l.length < 1000000) : PFun Tryz.prog Gl 71 [.sl (l.map eStm), .fn 72 []] fun r => r = .bool (decide (firstAt (fun s => !vStm s) l ≥ 0)) := by
  (refine PFun.of hT Tryz.func71 rfl fun B hD => ?_; refine pw_norm rfl ?_)
  (repeat' (first | refine zS ?_ | refine zlA1 rfl rfl rfl rfl zB rfl rfl (zNp ?_) | refine zlO1 rfl rfl rfl rfl zB rfl rfl (zNp ?_) | refine zlA2 rfl rfl rfl rfl zB rfl rfl (zNp ?_) | refine zlO2 rfl rfl rfl rfl zB rfl rfl (zNp ?_) | refine zlA3 rfl rfl rfl rfl zB rfl rfl (zNp ?_) | refine zlO3 rfl rfl rfl rfl zB rfl rfl (zNp ?_) | (refine pw_test rfl rfl zB ?_ ?_ <;> intro h <;> first | (exfalso; omega) | refine zNq ?_)))
  exact ret2 _ rfl rfl rfl
instance iHasStm (l : List TStm) : ConF Tryz.prog Gl 71 [.sl (l.map eStm), .fn 72 []] (l.length < 1000000) (.bool (decide (firstAt (fun s => !vStm s) l ≥ 0))) := ⟨e71, fun h => c_hasStm l h⟩
end Go.Proofs.YtkaobkjcjodffaaGreatDoor
namespace Go.Proofs.YtkaobkjcjodffaaGreatDoor
open Go Go.Pw
variable {Gl : Glob}
attribute [local irreducible] PW PWL OpP PCalls PWO vname vDefs vStm wOkB wFormat
set_option maxHeartbeats 20000000
set_option maxRecDepth 100000
instance iValidDefs (l : List TDef) (sv : Bool) : ConF Tryz.prog Gl 67 [.sl (l.map eDef), .bool sv] (l.length < 1000000 ∧ ∀ d ∈ l, d.items.length < 1000000) (.bool (vDefs l sv)) := ⟨e67, fun h => c_validDefs l sv h.1 h.2⟩
theorem all_getD {α : Type} [Inhabited α] {p : α → Bool} {l : List α} {k : Nat} (hk : ¬ k < l.length) (h : ∀ j, j < k → p (l.getD j default) = true) : l.all p = true := List.all_eq_true.2 fun x hx => by
  obtain ⟨n, hn⟩ := List.mem_iff_getElem?.1 hx
  have := h n (by have := (List.getElem?_eq_some_iff.1 hn).1; omega)
  rwa [List.getD, hn] at this
theorem c_iValid (hD' : GD Gl) (i : TInt) (hb : IBig i) (hi : ∀ d ∈ i.windows, d.active.length < 100000 ∧ ∀ r ∈ d.active, RIn r) : PFun Tryz.prog Gl 29 [eIntent i] fun r => r = .bool (iValid i) := by
  (refine PFun.of hT Tryz.func29 rfl fun B hD => ?_; refine pw_norm rfl ?_)
  have h1 := hb.groups
  have h2 := hb.services
  have h3 := hb.windows
  have h4 := hb.stms
  have h5 := hb.pubs
  have h6 := hb.hids
  have h7 := hb.gitems
  have h8 := hb.sitems
  have hsm : Small i.windows := by unfold Small; omega
  have h11 : ∀ k, (i.windows.getD k default).active.length < 100000 ∧ ∀ r ∈ (i.windows.getD k default).active, RIn r := fun k => by
    rw [List.getD]
    cases e : i.windows[k]? with
    | none => exact ⟨by decide, fun r hr => by cases hr⟩
    | some x => exact hi x (List.mem_of_getElem? e)
  unfold iValid
  generalize hS : (((((vDefs i.groups false && vDefs i.services true) && decide (i.windows.length ≤ 32)) && decide (i.stms.length ≤ 64)) && decide (i.pubs.length ≤ 16)) && decide (i.hids.length ≤ 8)) = S
  have hSi : S = true ↔ ((((vDefs i.groups false = true ∧ vDefs i.services true = true) ∧ i.windows.length ≤ 32) ∧ i.stms.length ≤ 64) ∧ i.pubs.length ≤ 16) ∧ i.hids.length ≤ 8 := by
    rw [← hS]
    simp only [Bool.and_eq_true, decide_eq_true_eq]
  (repeat' (first | refine zS ?_ | refine zlA1 rfl rfl rfl rfl zB rfl rfl (zNp ?_) | refine zlO1 rfl rfl rfl rfl zB rfl rfl (zNp ?_) | refine zlA2 rfl rfl rfl rfl zB rfl rfl (zNp ?_) | refine zlO2 rfl rfl rfl rfl zB rfl rfl (zNp ?_) | refine zlA3 rfl rfl rfl rfl zB rfl rfl (zNp ?_) | refine zlO3 rfl rfl rfl rfl zB rfl rfl (zNp ?_) | (refine pw_test rfl rfl zB ?_ ?_ <;> intro h <;> first | (exfalso; omega) | refine zNq ?_)))
  · have e : S = false := by
      rw [Bool.eq_false_iff]
      intro q
      obtain ⟨⟨⟨⟨⟨a, b⟩, c⟩, d⟩, e⟩, f⟩ := hSi.1 q
      rcases h with ((((h | h) | h) | h) | h) | h
      · exact h a
      · exact h b
      · omega
      · omega
      · omega
      · omega
    rw [e, Bool.false_and]
    exact ret2 _ rfl rfl rfl
  have e : S = true := hSi.2 ⟨⟨⟨⟨⟨Decidable.not_not.1 fun a => h (.inl (.inl (.inl (.inl (.inl a))))), Decidable.not_not.1 fun a => h (.inl (.inl (.inl (.inl (.inr a)))))⟩, by omega⟩, by omega⟩, by omega⟩, by omega⟩
  rw [e, Bool.true_and]
  clear hSi hS h e
  refine pw_for hD (fun k : Nat => [(49, .int .i64 k)]) (fun _ => [.box [.sl (i.groups.map eDef), .sl (i.services.map eDef), .sl (i.windows.map eWin), .sl (i.stms.map eStm), .sl (i.pubs.map ePub), .sl (i.hids.map eHid)]]) (fun k => k ≤ i.windows.length ∧ ∀ j, j < k → wWin i.windows j = true) (fun k => i.windows.length - k) 0 ⟨Nat.zero_le _, fun j h => by omega⟩ 1 rfl (fun _ => rfl) (by (exact zLes)) (fun _ => rfl) (fun _ => rfl) (by (exact zLe)) ?_
  rintro k ⟨hk, hkc⟩
  obtain ⟨h11, h12⟩ := h11 k
  (repeat' (first | refine zS ?_ | refine zlA1 rfl rfl rfl rfl zB rfl rfl (zNp ?_) | refine zlO1 rfl rfl rfl rfl zB rfl rfl (zNp ?_) | refine zlA2 rfl rfl rfl rfl zB rfl rfl (zNp ?_) | refine zlO2 rfl rfl rfl rfl zB rfl rfl (zNp ?_) | refine zlA3 rfl rfl rfl rfl zB rfl rfl (zNp ?_) | refine zlO3 rfl rfl rfl rfl zB rfl rfl (zNp ?_) | (refine pw_test rfl rfl zB ?_ ?_ <;> intro h <;> first | (exfalso; omega) | refine zNq ?_)))
  · have e : wWin i.windows k = false := by
      unfold wWin
      rcases h with (h | h) | h
      · rw [show wOkB (i.windows.getD k default).active = false by simpa using h, Bool.and_false]
      · rw [show vname (i.windows.getD k default).name = false by simpa using h]; rfl
      · rw [decide_eq_false (show ¬ firstAt (fun x : TWin => x.name == (i.windows.getD k default).name) i.windows = k from h), Bool.and_false, Bool.false_and]
    rw [show (List.range i.windows.length).all (wWin i.windows) = false from List.all_eq_false.2 ⟨k, List.mem_range.2 (by omega), by rw [e]; decide⟩]
    simp only [Bool.false_and]
    exact ret2 _ rfl rfl rfl
  · refine ⟨k + 1, ⟨by omega, fun j hj => ?_⟩, by omega, by (exact zLe), by (exact zLes)⟩
    rcases Nat.lt_succ_iff_lt_or_eq.1 hj with hj | rfl
    · exact hkc j hj
    · unfold wWin
      rw [Decidable.not_not.1 fun q => h (.inl (.inr q)), decide_eq_true (show firstAt (fun x : TWin => x.name == (i.windows.getD j default).name) i.windows = j from Decidable.not_not.1 fun q => h (.inr q)), Decidable.not_not.1 fun q => h (.inl (.inl q))]
      rfl
  rw [show (List.range i.windows.length).all (wWin i.windows) = true from List.all_eq_true.2 fun j hj => hkc j (by have := List.mem_range.1 hj; omega), Bool.true_and]
  clear h11 h12
  refine pw_for hD (fun k : Nat => [(81, .int .i64 k)]) (fun _ => [.box [.sl (i.groups.map eDef), .sl (i.services.map eDef), .sl (i.windows.map eWin), .sl (i.stms.map eStm), .sl (i.pubs.map ePub), .sl (i.hids.map eHid)]]) (fun k => k ≤ i.pubs.length ∧ ∀ j, j < k → vPub (i.pubs.getD j default) = true) (fun k => i.pubs.length - k) 0 ⟨Nat.zero_le _, fun j h => by omega⟩ 1 rfl (fun _ => rfl) (by (exact zLes)) (fun _ => rfl) (fun _ => rfl) (by (exact zLe)) ?_
  rintro k ⟨hk, hkc⟩
  (repeat' (first | refine zS ?_ | refine zlA1 rfl rfl rfl rfl zB rfl rfl (zNp ?_) | refine zlO1 rfl rfl rfl rfl zB rfl rfl (zNp ?_) | refine zlA2 rfl rfl rfl rfl zB rfl rfl (zNp ?_) | refine zlO2 rfl rfl rfl rfl zB rfl rfl (zNp ?_) | refine zlA3 rfl rfl rfl rfl zB rfl rfl (zNp ?_) | refine zlO3 rfl rfl rfl rfl zB rfl rfl (zNp ?_) | (refine pw_test rfl rfl zB ?_ ?_ <;> intro h <;> first | (exfalso; omega) | refine zNq ?_)))
  · have e : ¬ vPub (i.pubs.getD k default) = true := fun q => by
      unfold vPub at q
      simp only [Bool.and_eq_true, Bool.or_eq_true, decide_eq_true_eq, beq_iff_eq] at q
      obtain ⟨⟨⟨a, b⟩, c⟩, d⟩ := q
      rcases h with ((h | h) | h) | h
      · omega
      · exact h b
      · exact h c
      · exact h d
    rw [show i.pubs.all vPub = false from List.all_eq_false.2 ⟨_, getD_memD (by omega), e⟩]
    simp only [Bool.false_and, Bool.and_false]
    exact ret2 _ rfl rfl rfl
  · refine ⟨k + 1, ⟨by omega, fun j hj => ?_⟩, by omega, by (exact zLe), by (exact zLes)⟩
    rcases Nat.lt_succ_iff_lt_or_eq.1 hj with hj | rfl
    · exact hkc j hj
    · unfold vPub
      simp only [Bool.and_eq_true, Bool.or_eq_true, decide_eq_true_eq, beq_iff_eq]
      refine ⟨⟨⟨by omega, by omega⟩, by omega⟩, Decidable.not_not.1 fun q => h (.inr q)⟩
  rw [show i.pubs.all vPub = true from all_getD (by omega) hkc]
  refine pw_for hD (fun k : Nat => [(117, .int .i64 k)]) (fun _ => [.box [.sl (i.groups.map eDef), .sl (i.services.map eDef), .sl (i.windows.map eWin), .sl (i.stms.map eStm), .sl (i.pubs.map ePub), .sl (i.hids.map eHid)]]) (fun k => k ≤ i.hids.length ∧ ∀ j, j < k → vHid (i.hids.getD j default) = true) (fun k => i.hids.length - k) 0 ⟨Nat.zero_le _, fun j h => by omega⟩ 1 rfl (fun _ => rfl) (by (exact zLes)) (fun _ => rfl) (fun _ => rfl) (by (exact zLe)) ?_
  rintro k ⟨hk, hkc⟩
  (repeat' (first | refine zS ?_ | refine zlA1 rfl rfl rfl rfl zB rfl rfl (zNp ?_) | refine zlO1 rfl rfl rfl rfl zB rfl rfl (zNp ?_) | refine zlA2 rfl rfl rfl rfl zB rfl rfl (zNp ?_) | refine zlO2 rfl rfl rfl rfl zB rfl rfl (zNp ?_) | refine zlA3 rfl rfl rfl rfl zB rfl rfl (zNp ?_) | refine zlO3 rfl rfl rfl rfl zB rfl rfl (zNp ?_) | (refine pw_test rfl rfl zB ?_ ?_ <;> intro h <;> first | (exfalso; omega) | refine zNq ?_)))
  · have e : ¬ vHid (i.hids.getD k default) = true := fun q => by
      unfold vHid at q
      simp only [Bool.and_eq_true, decide_eq_true_eq] at q
      obtain ⟨⟨a, b⟩, ⟨c, d⟩, e⟩ := q
      rcases h with (((h | h) | h) | h) | h
      · exact h a
      · exact h b
      · omega
      · omega
      · omega
    rw [show i.hids.all vHid = false from List.all_eq_false.2 ⟨_, getD_memD (by omega), e⟩]
    simp only [Bool.and_false]
    exact ret2 _ rfl rfl rfl
  · refine ⟨k + 1, ⟨by omega, fun j hj => ?_⟩, by omega, by (exact zLe), by (exact zLes)⟩
    rcases Nat.lt_succ_iff_lt_or_eq.1 hj with hj | rfl
    · exact hkc j hj
    · unfold vHid
      simp only [Bool.and_eq_true, decide_eq_true_eq]
      exact ⟨⟨Decidable.not_not.1 fun q => h (.inl (.inl (.inl (.inl q)))), Decidable.not_not.1 fun q => h (.inl (.inl (.inl (.inr q))))⟩, ⟨by omega, by omega⟩, by omega⟩
  rw [show i.hids.all vHid = true from all_getD (by omega) hkc]
  (repeat' (first | refine zS ?_ | refine zlA1 rfl rfl rfl rfl zB rfl rfl (zNp ?_) | refine zlO1 rfl rfl rfl rfl zB rfl rfl (zNp ?_) | refine zlA2 rfl rfl rfl rfl zB rfl rfl (zNp ?_) | refine zlO2 rfl rfl rfl rfl zB rfl rfl (zNp ?_) | refine zlA3 rfl rfl rfl rfl zB rfl rfl (zNp ?_) | refine zlO3 rfl rfl rfl rfl zB rfl rfl (zNp ?_) | (refine pw_test rfl rfl zB ?_ ?_ <;> intro h <;> first | (exfalso; omega) | refine zNq ?_)))
  refine ret2 _ rfl ?_ rfl
  rw [firstAt_all, Bool.and_true, Bool.and_true]
end Go.Proofs.YtkaobkjcjodffaaGreatDoor
namespace Go.Proofs.YtkaobkjcjodffaaGreatDoor
open Go Go.Pw
def int0 : TInt := ⟨[], [], [], [], [], []⟩
def iLine (i : TInt) (w : List Str) : Int × TInt :=
  if w.getD 0 [] = [103, 114, 111, 117, 112] then ((pDef i.groups w false).1, { i with groups := (pDef i.groups w false).2 }) else
  if w.getD 0 [] = [115, 101, 114, 118, 105, 99, 101] then ((pDef i.services w true).1, { i with services := (pDef i.services w true).2 }) else
  if w.getD 0 [] = [119, 105, 110, 100, 111, 119] then ((pWin i.windows w).1, { i with windows := (pWin i.windows w).2 }) else
  if w.getD 0 [] = [97, 108, 108, 111, 119] then ((pStm i.stms w).1, { i with stms := (pStm i.stms w).2 }) else
  if w.getD 0 [] = [100, 101, 110, 121] then ((pStm i.stms w).1, { i with stms := (pStm i.stms w).2 }) else
  if w.getD 0 [] = [112, 117, 98, 108, 105, 115, 104] then ((pPub i.pubs w).1, { i with pubs := (pPub i.pubs w).2 }) else
  if w.getD 0 [] = [104, 105, 100, 101] then ((pHid i.hids w).1, { i with hids := (pHid i.hids w).2 }) else (4, i)
structure ILim (i : TInt) : Prop where
  groups : i.groups.length ≤ 32
  services : i.services.length ≤ 32
  windows : i.windows.length ≤ 32
  stms : i.stms.length ≤ 64
  pubs : i.pubs.length ≤ 16
  hids : i.hids.length ≤ 8
theorem pDef_lim {l : List TDef} (h : l.length ≤ 32) (w : List Str) (sv : Bool) : (pDef l w sv).2.length ≤ 32 := by
  unfold pDef
  repeat' (split; · exact h)
  rename_i h4
  simp; omega
theorem pWin_lim {l : List TWin} (h : l.length ≤ 32) (w : List Str) : (pWin l w).2.length ≤ 32 := by
  unfold pWin
  repeat' (split; · exact h)
  rename_i h4
  simp; omega
theorem pStm_lim {l : List TStm} (h : l.length ≤ 64) (w : List Str) : (pStm l w).2.length ≤ 64 := by
  unfold pStm
  repeat' (split; · exact h)
  rename_i h4
  simp; omega
theorem pPub_lim {l : List TPub} (h : l.length ≤ 16) (w : List Str) : (pPub l w).2.length ≤ 16 := by
  unfold pPub
  repeat' (split; · exact h)
  rename_i h4
  simp; omega
theorem pHid_lim {l : List THid} (h : l.length ≤ 8) (w : List Str) : (pHid l w).2.length ≤ 8 := by
  unfold pHid
  repeat' (split; · exact h)
  rename_i h4
  simp; omega
theorem iLine_lim {i : TInt} (h : ILim i) (w : List Str) : ILim (iLine i w).2 := by
  unfold iLine
  split
  · exact { h with groups := pDef_lim h.groups w false }
  split
  · exact { h with services := pDef_lim h.services w true }
  split
  · exact { h with windows := pWin_lim h.windows w }
  split
  · exact { h with stms := pStm_lim h.stms w }
  split
  · exact { h with stms := pStm_lim h.stms w }
  split
  · exact { h with pubs := pPub_lim h.pubs w }
  split
  · exact { h with hids := pHid_lim h.hids w }
  · exact h
theorem int0_lim : ILim int0 := ⟨by decide, by decide, by decide, by decide, by decide, by decide⟩
def iRun : List TLine → TInt → TInt × Int × Int
  | [], i => (i, 0, 0)
  | l :: ls, i => if ¬ (iLine i l.words).1 = 0 then (int0, l.num, (iLine i l.words).1) else iRun ls (iLine i l.words).2
def iParse (s : Str) : TInt × Int × Int := if ¬ (lines s).2.2 = 0 then (int0, (lines s).2.1, (lines s).2.2) else iRun (lines s).1 int0
instance : Inhabited TLine := ⟨⟨0, []⟩⟩
theorem iRun_drop {ls : List TLine} {k : Nat} (h : k < ls.length) (i : TInt) : iRun (ls.drop k) i = if ¬ (iLine i (ls.getD k default).words).1 = 0 then (int0, (ls.getD k default).num, (iLine i (ls.getD k default).words).1) else iRun (ls.drop (k + 1)) (iLine i (ls.getD k default).words).2 := by
  rw [List.drop_eq_getElem_cons h, iRun, List.getD, List.getElem?_eq_getElem h]; rfl
theorem lrun_64 : ∀ (ls : List Str) (i : Nat) (out : List TLine), (∀ x ∈ out, x.words.length ≤ 64) → ∀ x ∈ (lrun ls i out).1, x.words.length ≤ 64
  | [], i, out, ho => ho
  | l :: ls, i, out, ho => by
    rw [lrun]
    split
    · simp
    · split
      · simp
      · rename_i h64
        split
        · refine lrun_64 ls (i + 1) _ fun x hx => ?_
          rcases List.mem_append.1 hx with hx | hx
          · exact ho x hx
          · rw [List.mem_singleton] at hx; subst hx
            simp at h64
            show (words l).length ≤ 64
            omega
        · exact lrun_64 ls (i + 1) _ ho
theorem lines_64 (s : Str) : ∀ x ∈ (lines s).1, x.words.length ≤ 64 := by
  unfold lines
  split
  · simp
  · exact lrun_64 _ _ _ (by simp)
theorem line_at {s : Str} {ls : List TLine} (h : (lines s).1 = ls) {k : Nat} (hk : k < ls.length) : 0 < (ls.getD k default).words.length ∧ (ls.getD k default).words.length ≤ 64 ∧ WOk (ls.getD k default).words := by
  subst h
  rw [List.getD, List.getElem?_eq_getElem hk]
  exact ⟨(lines_ok s).some _ (List.getElem_mem hk), lines_64 s _ (List.getElem_mem hk), (lines_ok s).ok _ (List.getElem_mem hk)⟩
end Go.Proofs.YtkaobkjcjodffaaGreatDoor
