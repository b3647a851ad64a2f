/-
  Contracts of functions, walked over pure values.
-/
import Derived.Test.YtdehdgbdcfkpbaaGreatDoorKR1
import Derived.Test.YtdehdgbdcfkpbaaGreatDoorKC1
import Derived.Test.YtdehdgbdcfkpbaaGreatDoorKA5
import Derived.Test.YtdehdgbdcfkpbaaGreatDoorJPwLoop
namespace Go.Proofs.YtdehdgbdcfkpbaaGreatDoor
open Go Go.Pw
variable {Gl : Glob}
attribute [local irreducible] PW PWL OpP PCalls PWO
set_option maxHeartbeats 20000000

/-! ### prefix.Parse -/
def pphead (l r : Str) (f : Bool) : Bool := ((((!f || !(addr l).2) || ((r.length : Int) == 0)) || decide ((r.length : Int) > 2)) || (((r.length : Int) == 2) && (((r.headD 0).toNat : Int) == 48)))
def pfxP2 (l r : Str) (f : Bool) : TPfx × Bool :=
  if pphead l r f then (⟨0, 0⟩, false) else if r.any dbad then (⟨0, 0⟩, false) else if !pvalid ⟨(addr l).1, (dval r : Int)⟩ then (⟨0, 0⟩, false) else (⟨(addr l).1, (dval r : Int)⟩, true)
def pfxParse (s : Str) : TPfx × Bool := pfxP2 (Lib.cut s [47]).1 (Lib.cut s [47]).2.1 (Lib.cut s [47]).2.2
theorem cut_len (s sep : Str) : (Lib.cut s sep).1.length ≤ s.length ∧ (Lib.cut s sep).2.1.length ≤ s.length := by
  unfold Lib.cut
  split <;> simp
  omega
theorem c129' (s : Str) (hl : Small s) : PFun Tryz.prog Gl 129 [.str s] fun r => r = .tup [.int .u32 (addr s).1, .bool (addr s).2] := (c129 s hl).mono fun _ h => h
theorem c104 (hG : GM Gl) (s : Str) (hl : s.length < 4294967281) : PFun Tryz.prog Gl 104 [.str s] fun r => r = .tup [ePfx (pfxParse s).1, .bool (pfxParse s).2] := by
  refine PFun.of hT Tryz.func104 rfl fun B hD => ?_
  refine pw_norm rfl ?_
  have hcl := cut_len s [47]
  have hpp : pfxParse s = pfxP2 (Lib.cut s [47]).1 (Lib.cut s [47]).2.1 (Lib.cut s [47]).2.2 := rfl
  rw [hpp]
  clear hpp
  (refine zGo ?_)
  (refine pl_op rfl (op_fun (c128 hG s [47] hl) rfl rfl e128 zLe rfl (fun r hr => ?_)); subst hr; refine ⟨rfl, ?_⟩; (refine zNp ?_))
  generalize hc : Lib.cut s [47] = c at hcl ⊢
  obtain ⟨l, r, f⟩ := c
  clear hc
  dsimp only at hcl ⊢
  (refine zGo ?_)
  (refine pl_op rfl (op_fun (c129' l (by unfold Small; omega)) rfl rfl e129 zLe rfl (fun r hr => ?_)); subst hr; refine ⟨rfl, ?_⟩; (refine zNp ?_))
  (refine zGo ?_)
  (refine pl_or 3 25 28 (!(addr l).2) rfl rfl rfl (fun hb => ?_) (fun hb => ?_) ?_; (focus ((refine zNp ?_); (refine zGo ?_); exact ⟨by (exact zLe), StLe.refl _⟩)); (focus ((refine zNp ?_); (refine zGo ?_); exact ⟨by (exact zLe), StLe.refl _⟩)); (refine zNp ?_); (refine zGo ?_))
  (refine pl_or 4 29 33 ((r.length : Int) == 0) rfl rfl rfl (fun hb => ?_) (fun hb => ?_) ?_; (focus ((refine zNp ?_); (refine zGo ?_); exact ⟨by (exact zLe), StLe.refl _⟩)); (focus ((refine zNp ?_); (refine zGo ?_); exact ⟨by (exact zLe), StLe.refl _⟩)); (refine zNp ?_); (refine zGo ?_))
  (refine pl_or 4 34 38 (decide ((r.length : Int) > 2)) rfl rfl rfl (fun hb => ?_) (fun hb => ?_) ?_; (focus ((refine zNp ?_); (refine zGo ?_); exact ⟨by (exact zLe), StLe.refl _⟩)); (focus ((refine zNp ?_); (refine zGo ?_); exact ⟨by (exact zLe), StLe.refl _⟩)); (refine zNp ?_); (refine zGo ?_))
  refine pl_or 9 39 48 (((r.length : Int) == 2) && (((r.headD 0).toNat : Int) == 48)) rfl rfl rfl (fun hb => ?_) (fun hb => ?_) ?_
  · refine pl_norm rfl ?_
    (refine zGo ?_)
    exact ⟨by (exact zLe), StLe.refl _⟩
  · refine pl_norm rfl ?_
    (refine zGo ?_)
    (refine pl_and 4 43 47 (((r.headD 0).toNat : Int) == 48) rfl rfl rfl (fun hb => ?_) (fun hb => ?_) ?_; (focus ((refine zNp ?_); (refine zGo ?_); (refine pl_on rfl rfl (op_of (v_indexs (c := r.headD 0) hT rfl rfl rfl rfl (by omega) (head_some (by rintro rfl; simp at hb))) ?_); (refine zNp ?_)); (refine zGo ?_); exact ⟨by (exact zLe), StLe.refl _⟩)); (focus ((refine zNp ?_); (refine zGo ?_); exact ⟨by (exact zLe), StLe.refl _⟩)); (refine zNp ?_); (refine zGo ?_))
    exact ⟨by (exact zLe), StLe.refl _⟩
  refine pl_norm rfl ?_
  (refine zGo ?_)
  refine pw_cond rfl (fun h => ?_) (fun h => ?_)
  · (refine zGo ?_)
    refine ret1 _ rfl ?_ rfl
    have h' : pphead l r f = true := h
    simp only [pfxP2, h', if_true]
    rfl
  have h' : pphead l r f = false := h
  have hh := h'
  simp only [pphead, Bool.or_eq_false_iff, decide_eq_false_iff_not] at hh
  (refine zGo ?_)
  have hr2 : r.length ≤ 2 := by omega
  refine pw_for hD (fun i : Nat => [(9, .int .i64 (dval (r.take i) : Int)), (10, .int .i64 i)]) (fun _ => [.box [.int .u32 0, .int .i64 0]]) (fun i => i ≤ r.length ∧ ∀ (j : Nat) c, j < i → r[j]? = some c → dbad c = false) (fun i => r.length - i) 0 ⟨by omega, by intro j c h; omega⟩ 1 rfl (fun _ => rfl) (StLe.refl _) (fun _ => rfl) (fun _ => rfl) (by (exact zLe)) ?_
  rintro i ⟨hi, hno⟩
  (refine zGo ?_)
  refine pw_cond rfl (fun h2 => ?_) (fun h2 => ?_)
  · simp only [decide_eq_true_eq] at h2
    have hlt : i < r.length := by omega
    (refine zGo ?_)
    (refine pl_op rfl (op_of (v_indexs (c := r[i]) hT rfl rfl rfl rfl (by omega) (by simp [hlt])) ?_); (refine zNp ?_))
    (refine zGo ?_)
    (refine pl_or 5 60 65 (decide ((r[i].toNat : Int) > 57)) rfl rfl rfl (fun hb => ?_) (fun hb => ?_) ?_; (focus ((refine zNp ?_); (refine zGo ?_); exact ⟨by (exact zLe), StLe.refl _⟩)); (focus ((refine zNp ?_); (refine zGo ?_); (refine pl_on rfl rfl (op_of (v_indexs (c := r[i]) hT rfl rfl rfl rfl (by omega) (by simp [hlt])) ?_); (refine zNp ?_)); (refine zGo ?_); exact ⟨by (exact zLe), StLe.refl _⟩)); (refine zNp ?_); (refine zGo ?_))
    refine pw_cond rfl (fun h3 => ?_) (fun h3 => ?_)
    · (refine zGo ?_)
      refine ret1 _ rfl ?_ rfl
      have : r.any dbad = true := List.any_eq_true.2 ⟨r[i], List.getElem_mem hlt, h3⟩
      simp only [pfxP2, h', this, if_true, Bool.false_eq_true, if_false]
      rfl
    · have h3' := h3
      simp only [Bool.or_eq_false_iff, decide_eq_false_iff_not] at h3'
      have hv : dval (r.take i) < 10 ^ 2 := by
        have := dval_lt (r.take i) (fun c hc => by
          obtain ⟨j, hj⟩ := List.mem_iff_getElem?.1 hc
          rw [List.getElem?_take] at hj
          split at hj
          · exact hno j c (by assumption) hj
          · cases hj)
        have h4 : (r.take i).length ≤ 2 := by simp; omega
        exact Nat.lt_of_lt_of_le this (Nat.pow_le_pow_right (by omega) h4)
      (refine zGo ?_)
      (refine pl_op rfl (op_of (v_indexs (c := r[i]) hT rfl rfl rfl rfl (by omega) (by simp [hlt])) ?_); (refine zNp ?_))
      (refine pl_op rfl (op_of (v_arith rfl rfl rfl rfl (IntWalk.u8_in _ (by omega))) ?_); (refine zNp ?_))
      (refine pl_op rfl (op_of (v_conv hT rfl rfl rfl rfl (IntWalk.i64_in _ (by omega))) ?_); (refine zNp ?_))
      (refine zGo ?_)
      have hs : (dval (r.take (i + 1)) : Int) = 10 * (dval (r.take i) : Int) + ((r[i].toNat : Int) - 48) := by
        rw [List.take_succ_eq_append_getElem hlt, dval_snoc]; omega
      refine ⟨i + 1, ⟨by omega, fun j d hj hd => ?_⟩, by omega, ?_, by (exact zLes)⟩
      · rcases Nat.lt_succ_iff_lt_or_eq.1 hj with hj | rfl
        · exact hno j d hj hd
        · rw [List.getElem?_eq_getElem hlt] at hd; cases hd; exact h3
      · simp only [hs]
        (exact zLe)
  · simp only [decide_eq_false_iff_not] at h2
    have hie : i = r.length := by omega
    subst hie
    have hany : r.any dbad = false := List.any_eq_false.2 fun c hc => by
      obtain ⟨j, hj⟩ := List.mem_iff_getElem?.1 hc
      simp [hno j c (by have := (List.getElem?_eq_some_iff.1 hj).1; omega) hj]
    rw [List.take_length]
    (refine zGo ?_)
    (refine pl_op rfl (op_fun (c45 ⟨(addr l).1, (dval r : Int)⟩) rfl rfl e45 zLe rfl (fun r hr => ?_)); subst hr; refine ⟨rfl, ?_⟩; (refine zNp ?_))
    (refine zGo ?_)
    refine pw_cond rfl (fun h3 => ?_) (fun h3 => ?_)
    · (refine zGo ?_)
      refine ret1 _ rfl ?_ rfl
      simp only [pfxP2, h', hany, h3, if_true, Bool.false_eq_true, if_false]
      rfl
    · (refine zGo ?_)
      refine ret1 _ rfl ?_ rfl
      simp only [pfxP2, h', hany, h3, Bool.false_eq_true, if_false]
      rfl
end Go.Proofs.YtdehdgbdcfkpbaaGreatDoor
namespace Go.Proofs.YtdehdgbdcfkpbaaGreatDoor
open Go Go.Pw
variable {Gl : Glob}
attribute [local irreducible] PW PWL OpP PCalls PWO
set_option maxHeartbeats 20000000

/-! ### the parser of topologies -/
abbrev Caps := Nat × Nat × Nat × Nat
def pBox (t : Topo) (told : Bool) (c : Caps) : PObj := .box [.msl 5 1 0 (t.devs.map eDev).length c.1, .msl 3 2 0 (t.links.map eLink).length c.2.1, .msl 6 3 0 (t.edges.map eEdge).length c.2.2.1, .msl 2 4 0 (t.pools.map ePfx).length c.2.2.2, .int .i64 t.tol, .bool told]
def pst (t : Topo) (told : Bool) (c : Caps) : List PObj := [pBox t told c, .arr 5 (t.devs.map eDev) c.1, .arr 3 (t.links.map eLink) c.2.1, .arr 6 (t.edges.map eEdge) c.2.2.1, .arr 2 (t.pools.map ePfx) c.2.2.2]
structure WOk (w : List Str) : Prop where
  len : Small w
  each : ∀ x ∈ w, x.length < 4294967281
theorem WOk.at {w : List Str} (h : WOk w) (i : Nat) : (w.getD i []).length < 4294967281 := by
  rw [List.getD]
  cases hx : w[i]? with
  | none => simp
  | some x => exact h.each x (List.mem_of_getElem? hx)
theorem WOk.small {w : List Str} (h : WOk w) (i : Nat) : Small (w.getD i []) := by have := h.at i; unfold Small; omega
theorem str_at (w : List Str) (i : Nat) (h : i < w.length) : (w.map PV.str)[i]? = some (.str (w.getD i [])) := by
  rw [List.getElem?_map, List.getD, List.getElem?_eq_getElem h]; rfl
theorem formB_len {w p : List Str} (h : formB w p = true) : w.length = p.length := by
  unfold formB eqf at h
  simp only [Bool.and_eq_true] at h
  simpa using h.1
structure TOk (t : Topo) : Prop where
  devs : Small t.devs
  links : Small t.links
  edges : Small t.edges
  pools : Small t.pools
/-- What a line does: the error, and the state behind it. -/
abbrev LineR := Int × Topo × Bool
def LinePost (x : LineR) (r : PV) (s : List PObj) : Prop := ∃ c, r = .int .i64 x.1 ∧ s = pst x.2.1 x.2.2 c
def fTol : List Str := [[116, 111, 108, 101, 114, 97, 116, 101], [78]]
def pTol (t : Topo) (told : Bool) (w : List Str) : LineR :=
  if !formB w fTol || !digitsB (w.getD 1 []) then (4, t, told) else
  if !(number (w.getD 1 []) 0 2).2 then (2, t, told) else if told then (6, t, told) else (0, { t with tol := (number (w.getD 1 []) 0 2).1 }, true)
theorem c65 (t : Topo) (told : Bool) (c : Caps) (w : List Str) (hw : WOk w) : PCalls Tryz.prog Gl 65 [.ptr 0 0, .sl (w.map .str)] (pst t told c) fun r s => LinePost (pTol t told w) r s := by
  refine PCalls.of hT Tryz.func65 rfl 5 (Nat.le_refl _) fun B hD => ?_
  refine pw_norm rfl ?_
  (refine zGo ?_)
  (refine pl_op rfl (op_fun (c99 w fTol hw.len (by decide)) rfl rfl e99 zLe rfl (fun r hr => ?_)); subst hr; refine ⟨rfl, ?_⟩; (refine zNp ?_))
  (refine zGo ?_)
  (refine pl_or 6 11 17 (!digitsB (w.getD 1 [])) rfl rfl rfl (fun hb => ?_) (fun hb => ?_) ?_; (focus ((refine zNp ?_); (refine zGo ?_); exact ⟨by (exact zLe), StLe.refl _⟩)); (focus ((refine zNp ?_); (refine zGo ?_); have hlen : w.length = 2 := formB_len (by simpa using hb); (refine pl_on rfl rfl (op_of (v_index (p := .str (w.getD 1 [])) hT rfl rfl rfl rfl (by omega) (str_at w 1 (by omega)) rfl) ?_); (refine zNp ?_)); (refine zGo ?_); (refine pl_on rfl rfl (op_fun (c100 (w.getD 1 []) (hw.at 1)) rfl rfl e100 zLe rfl (fun r hr => ?_)); subst hr; refine ⟨rfl, ?_⟩; (refine zNp ?_)); (refine zGo ?_); exact ⟨by (exact zLe), StLe.refl _⟩)); (refine zNp ?_); (refine zGo ?_))
  refine pw_cond rfl (fun h => ?_) (fun h => ?_)
  · have e : pTol t told w = (4, t, told) := by simp only [pTol, h, if_true]
    rw [e]
    (refine zGo ?_)
    exact ⟨_, _, _, rfl, ⟨c, rfl, rfl⟩, .inr (.inl rfl), ⟨.inr (.inl rfl), .inr (.inl rfl), .inr (.inl rfl), .inr (.inl rfl), .inr (.inl rfl), trivial⟩, rfl, rfl⟩
  have hlen : w.length = 2 := formB_len (p := fTol) (by simpa using (Bool.or_eq_false_iff.1 h).1)
  (refine zGo ?_)
  (refine pl_op rfl (op_of (v_index (p := .str (w.getD 1 [])) hT rfl rfl rfl rfl (by omega) (str_at w 1 (by omega)) rfl) ?_); (refine zNp ?_))
  (refine zGo ?_)
  (refine pl_op rfl (op_fun (c103 (w.getD 1 []) 0 2 (hw.small 1) (by omega)) rfl rfl e103 zLe rfl (fun r hr => ?_)); subst hr; refine ⟨rfl, ?_⟩; (refine zNp ?_))
  (refine zGo ?_)
  refine pw_cond rfl (fun h2 => ?_) (fun h2 => ?_)
  · have e : pTol t told w = (2, t, told) := by simp only [pTol, h, h2, if_true, Bool.false_eq_true, if_false]
    rw [e]
    (refine zGo ?_)
    exact ⟨_, _, _, rfl, ⟨c, rfl, rfl⟩, .inr (.inl rfl), ⟨.inr (.inl rfl), .inr (.inl rfl), .inr (.inl rfl), .inr (.inl rfl), .inr (.inl rfl), trivial⟩, rfl, rfl⟩
  (refine zGo ?_)
  refine pw_cond rfl (fun h3 => ?_) (fun h3 => ?_)
  · subst h3
    have e : pTol t true w = (6, t, true) := by simp only [pTol, h, h2, if_true, Bool.false_eq_true, if_false]
    rw [e]
    (refine zGo ?_)
    exact ⟨_, _, _, rfl, ⟨c, rfl, rfl⟩, .inr (.inl rfl), ⟨.inr (.inl rfl), .inr (.inl rfl), .inr (.inl rfl), .inr (.inl rfl), .inr (.inl rfl), trivial⟩, rfl, rfl⟩
  · subst h3
    have e : pTol t false w = (0, { t with tol := (number (w.getD 1 []) 0 2).1 }, true) := by simp only [pTol, h, h2, Bool.false_eq_true, if_false]
    rw [e]
    (refine zGo ?_)
    exact ⟨_, _, _, rfl, ⟨c, rfl, rfl⟩, .inr (.inl rfl), ⟨.inr (.inl rfl), .inr (.inl rfl), .inr (.inl rfl), .inr (.inl rfl), .inr (.inl rfl), trivial⟩, rfl, rfl⟩

def fPool : List Str := [[112, 111, 111, 108], [80, 82, 69, 70, 73, 88]]
def pPool (t : Topo) (told : Bool) (w : List Str) : LineR :=
  if !formB w fPool then (4, t, told) else if !(pfxParse (w.getD 1 [])).2 then (4, t, told) else if t.pools.any (fun q => pover q (pfxParse (w.getD 1 [])).1) then (7, t, told) else
  if decide ((t.pools.length : Int) ≥ 8) then (3, t, told) else (0, { t with pools := t.pools ++ [(pfxParse (w.getD 1 [])).1] }, told)
theorem c64 (hG : GM Gl) (t : Topo) (ht : TOk t) (told : Bool) (c : Caps) (w : List Str) (hw : WOk w) : PCalls Tryz.prog Gl 64 [.ptr 0 0, .sl (w.map .str)] (pst t told c) fun r s => LinePost (pPool t told w) r s := by
  refine PCalls.of hT Tryz.func64 rfl 5 (Nat.le_refl _) fun B hD => ?_
  refine pw_norm rfl ?_
  (refine zGo ?_)
  (refine pl_op rfl (op_fun (c99 w fPool hw.len (by decide)) rfl rfl e99 zLe rfl (fun r hr => ?_)); subst hr; refine ⟨rfl, ?_⟩; (refine zNp ?_))
  (refine zGo ?_)
  refine pw_cond rfl (fun h => ?_) (fun h => ?_)
  · have e : pPool t told w = (4, t, told) := by simp only [pPool, h, if_true]
    rw [e]
    (refine zGo ?_)
    exact ⟨_, _, _, rfl, ⟨c, rfl, rfl⟩, .inr (.inl rfl), ⟨.inr (.inl rfl), .inr (.inl rfl), .inr (.inl rfl), .inr (.inl rfl), .inr (.inl rfl), trivial⟩, rfl, rfl⟩
  have hlen : w.length = 2 := formB_len (p := fPool) (by simpa using h)
  (refine zGo ?_)
  (refine pl_op rfl (op_of (v_index (p := .str (w.getD 1 [])) hT rfl rfl rfl rfl (by omega) (str_at w 1 (by omega)) rfl) ?_); (refine zNp ?_))
  (refine zGo ?_)
  (refine pl_op rfl (op_fun (c104 hG (w.getD 1 []) (hw.at 1)) rfl rfl e104 zLe rfl (fun r hr => ?_)); subst hr; refine ⟨rfl, ?_⟩; (refine zNp ?_))
  generalize hp : pfxParse (w.getD 1 []) = p
  (refine zGo ?_)
  refine pw_cond rfl (fun h2 => ?_) (fun h2 => ?_)
  · have e : pPool t told w = (4, t, told) := by simp only [pPool, h, hp, h2, if_true, Bool.false_eq_true, if_false]
    rw [e]
    (refine zGo ?_)
    exact ⟨_, _, _, rfl, ⟨c, rfl, rfl⟩, .inr (.inl rfl), ⟨.inr (.inl rfl), .inr (.inl rfl), .inr (.inl rfl), .inr (.inl rfl), .inr (.inl rfl), trivial⟩, rfl, rfl⟩
  (refine zGo ?_)
  (refine pl_op rfl (op_lendF (full' := [.sl (t.pools.map ePfx), .fn 106 [.ptr 5 0]]) 5 [5] rfl (c46 e106 (by rfl) ht.pools fun x _ => c106 p.1 x) rfl rfl e46 (by decide) rfl rfl zLef rfl rfl zLe zLes (fun r s hq => ?_)); obtain ⟨rfl, rfl⟩ := hq; refine ⟨rfl, rfl, ?_⟩; (refine zNp ?_))
  (refine zGo ?_)
  refine pw_cond rfl (fun h3 => ?_) (fun h3 => ?_)
  · have e : pPool t told w = (7, t, told) := by simp only [pPool, h, hp, h2, h3, if_true, Bool.false_eq_true, if_false]
    rw [e]
    (refine zGo ?_)
    exact ⟨_, _, _, rfl, ⟨c, rfl, rfl⟩, .inr (.inl rfl), ⟨.inr (.inl rfl), .inr (.inl rfl), .inr (.inl rfl), .inr (.inl rfl), .inr (.inl rfl), trivial⟩, rfl, rfl⟩
  (refine zGo ?_)
  refine pw_cond rfl (fun h4 => ?_) (fun h4 => ?_)
  · have e : pPool t told w = (3, t, told) := by rw [List.length_map] at h4; simp only [pPool, h, hp, h2, h3, h4, if_true, Bool.false_eq_true, if_false]
    rw [e]
    (refine zGo ?_)
    exact ⟨_, _, _, rfl, ⟨c, rfl, rfl⟩, .inr (.inl rfl), ⟨.inr (.inl rfl), .inr (.inl rfl), .inr (.inl rfl), .inr (.inl rfl), .inr (.inl rfl), trivial⟩, rfl, rfl⟩
  have e : pPool t told w = (0, { t with pools := t.pools ++ [p.1] }, told) := by rw [List.length_map] at h4; simp only [pPool, h, hp, h2, h3, h4, Bool.false_eq_true, if_false]
  rw [e]
  have hpl := ht.pools
  unfold Small at hpl
  (refine zGo ?_)
  refine pw_draw [(0, true), (1, true), (2, true), (3, true), (4, true), (5, true), (6, true), (7, true), (8, false), (9, true), (10, true), (11, true), (12, false)] hmix (by decide +kernel) ?_
  (refine zDgo ?_)
  (refine po_make rfl rfl (fun st' K hK => op_litF hT rfl rfl rfl rfl rfl (by decide) rfl rfl rfl rfl hK) ?_; refine zDn ?_)
  (refine po_step rfl rfl (op_append (b := 16) hT rfl rfl rfl rfl rfl rfl (.inl (Nat.zero_lt_succ _)) rfl rfl (by simp; omega) (fun cap' _ hcap => ⟨zLok, ?_⟩)); refine zDn ?_)
  (refine zDgo ?_)
  (refine pw_mv 4 6 hD rfl rfl rfl rfl rfl ?_; refine pw_norm rfl ?_)
  (refine pw_trim 6 hD rfl rfl ?_; refine pw_norm rfl ?_)
  (refine zGo ?_)
  refine ⟨_, _, pst _ told (c.1, c.2.1, c.2.2.1, cap'), rfl, ⟨_, rfl, rfl⟩, .inr (.inl rfl), ?_, rfl, rfl⟩
  simp only [pst, pBox, List.map_append, List.length_append]
  exact ⟨.inr (.inl rfl), .inr (.inl rfl), .inr (.inl rfl), .inr (.inl rfl), .inr (.inl rfl), trivial⟩
end Go.Proofs.YtdehdgbdcfkpbaaGreatDoor
