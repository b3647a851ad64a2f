/-
 The texts of the sanity check, reckoned by the kernel.
-/
import Derived.Test.YtkaobkjcjodffaaGreatDoorTK51
import Derived.Test.YtkaobkjcjodffaaGreatDoorTM6
import Derived.Test.YtkaobkjcjodffaaGreatDoorTW5
import Derived.KernelRfl
set_option maxHeartbeats 20000000
set_option maxRecDepth 100000
namespace Go.Proofs.YtkaobkjcjodffaaGreatDoor
open Go Go.Pw
section
variable {Gl : Glob}
attribute [local irreducible] PW PWL OpP PCalls PWO vname vItem vStm wFormat PWT bothT
instance iValidItem' (x : TItem) (sv : Bool) : ConF Tryz.prog Gl 117 [.agg [.int .i64 x.kind, .str x.name, .int .u32 x.pfx.addr, .int .i64 x.pfx.bits, .int .i64 x.proto, .int .u32 x.ports.lo, .int .u32 x.ports.hi], .bool sv] True (.bool (vItem x sv)) := ⟨e117, fun _ => c_validItem x sv⟩
theorem c_validDefs (l : List TDef) (sv : Bool) (hl : l.length < 1000000) (hb : ∀ d ∈ l, d.items.length < 1000000) : PFun Tryz.prog Gl 67 [.sl (l.map eDef), .bool sv] fun r => r = .bool (vDefs l sv) := by
 (refine PFun.of hT Tryz.func67 rfl fun B hD => ?_; refine pw_norm rfl ?_)
 have hat : ∀ i, (l.getD i default).items.length < 1000000 := fun i => by
  rw [List.getD]
  cases h : l[i]? with
  | none => exact (by decide : (0 : Nat) < 1000000)
  | some x => exact hb x (List.mem_of_getElem? h)
 have hsm : Small l := by unfold Small; omega
 unfold vDefs
 (repeat' (first | refine zS ?_ | refine zq5 ?_ | refine zq6 ?_ | (refine zT ?_ ?_ <;> intro h <;> first | exact zX | refine zNq ?_)))
 refine pw_for hD (fun i : Nat => [(11, .int .i64 i)]) (fun _ => []) (fun i => i ≤ l.length ∧ ∀ j, j < i → dOk l sv j = true) (fun i => l.length - i) 0 ⟨Nat.zero_le _, fun j h => by omega⟩ 0 rfl (fun _ => rfl) zLes (fun _ => rfl) (fun _ => rfl) zLe ?_
 rintro i ⟨hi, hc⟩
 have hat := hat i
 (repeat' (first | refine zS ?_ | refine zq5 ?_ | refine zq6 ?_ | (refine zT ?_ ?_ <;> intro h <;> first | exact zX | refine zNq ?_)))
 ·have e : dOk l sv i = false := by
   unfold dOk
   rw [show dHead l i = false from by
    rw [Bool.eq_false_iff]
    intro q
    have q := (dHead_iff l i).1 q
    rcases h with ((h | h) | h) | h
    ·exact q (.inl (.inl (.inl h)))
    ·exact q (.inl (.inr (by omega)))
    ·exact q (.inr h)
    ·exact q (.inl (.inl (.inr h))), Bool.false_and]
  rw [dOk_fail (by omega) e, Bool.and_false]
  exact ret2 _ rfl rfl rfl
 ·have hh : dHead l i = true := (dHead_iff l i).2 (by
   rintro (((q | q) | q) | q)
   ·exact h (.inl (.inl (.inl q)))
   ·exact h (.inr q)
   ·exact h (.inl (.inl (.inr (by omega))))
   ·exact h (.inl (.inr q)))
  refine pw_for hD (fun k : Nat => [(43, .int .i64 k)]) (fun _ => [.box [.str (l.getD i default).name, .sl ((l.getD i default).items.map eItem)]]) (fun k => k ≤ (l.getD i default).items.length ∧ ∀ j, j < k → vItem ((l.getD i default).items.getD j default) sv = true) (fun k => (l.getD i default).items.length - k) 0 ⟨Nat.zero_le _, fun j h => by omega⟩ 1 rfl (fun _ => rfl) zLes (fun _ => rfl) (fun _ => rfl) zLe ?_
  rintro k ⟨hk, hkc⟩
  (repeat' (first | refine zS ?_ | refine zq5 ?_ | refine zq6 ?_ | (refine zT ?_ ?_ <;> intro h <;> first | exact zX | refine zNq ?_)))
  ·have e : dOk l sv i = false := by
    unfold dOk
    have : ((l.getD i default).items.all fun x => vItem x sv) = false := by
     rw [List.all_eq_false]
     exact ⟨_, getD_memD (by omega), h⟩
    rw [this, Bool.and_false]
   rw [dOk_fail (by omega) e, Bool.and_false]
   exact ret2 _ rfl rfl rfl
  ·refine ⟨k + 1, ⟨by omega, fun j hj => ?_⟩, by omega, zLe, zLes⟩
   rcases Nat.lt_succ_iff_lt_or_eq.1 hj with hj | rfl
   ·exact hkc j hj
   ·exact Decidable.not_not.1 h
  ·refine ⟨i + 1, ⟨by omega, fun j hj => ?_⟩, by omega, zLe, zLes⟩
   rcases Nat.lt_succ_iff_lt_or_eq.1 hj with hj | rfl
   ·exact hc j hj
   ·unfold dOk
    rw [hh, Bool.true_and]
    refine List.all_eq_true.2 fun x hx => ?_
    obtain ⟨n, hn⟩ := List.mem_iff_getElem?.1 hx
    have := hkc n (by have := (List.getElem?_eq_some_iff.1 hn).1; omega)
    rwa [List.getD, hn] at this
 ·rw [show (List.range l.length).all (dOk l sv) = true from List.all_eq_true.2 fun j hj => hc j (by have := List.mem_range.1 hj; omega), Bool.and_true]
  refine ret2 _ rfl ?_ rfl
  congr 1
  rw [decide_eq_decide]
  omega
theorem c_valid1 (n : Int) : PFun Tryz.prog Gl 70 [.int .i64 n] fun r => r = .bool (decide (n ≥ 0) && decide (n ≤ 65535)) := by
 (refine PFun.of hT Tryz.func70 rfl fun B hD => ?_; refine pw_norm rfl ?_)
 (repeat' (first | refine zS ?_ | refine zq5 ?_ | refine zq6 ?_ | (refine zT ?_ ?_ <;> intro h <;> first | exact zX | refine zNq ?_)))
 exact ret2 _ rfl rfl rfl
instance iValid1 (n : Int) : ConF Tryz.prog Gl 70 [.int .i64 n] True (.bool (decide (n ≥ 0) && decide (n ≤ 65535))) := ⟨e70, fun _ => c_valid1 n⟩
theorem c_valid2 (s : TStm) : PFun Tryz.prog Gl 72 [eStm s] fun r => r = .bool (!vStm s) := by
 (refine PFun.of hT Tryz.func72 rfl fun B hD => ?_; refine pw_norm rfl ?_)
 (repeat' (first | refine zS ?_ | (refine zT ?_ ?_ <;> intro h <;> first | exact zX | refine zNq ?_)))
 (refine pl_op rfl (op_fun (c_validStm s) rfl rfl e73 zLe rfl (fun r hr => ?_)); subst hr; refine ⟨rfl, ?_⟩; (refine zNp ?_))
 (repeat' (first | refine zS ?_ | (refine zT ?_ ?_ <;> intro h <;> first | exact zX | refine zNq ?_)))
 exact ret2 _ rfl rfl rfl
theorem c_idxStm (l : List TStm) (hl : l.length < 1000000) : PFun Tryz.prog Gl 120 [.sl (l.map eStm), .fn 72 []] fun r => r = .int .i64 (firstAt (fun s => !vStm s) l) := by
 (refine PFun.of hT Tryz.func120 rfl fun B hD => ?_; refine pw_norm rfl ?_)
 (repeat' (first | refine zS ?_ | (refine zT ?_ ?_ <;> intro h <;> first | exact zX | refine zNq ?_)))
 refine pw_for hD (fun i : Nat => [(8, .int .i64 i)]) (fun _ => []) (fun i => i ≤ l.length ∧ ∀ (j : Nat) d, j < i → l[j]? = some d → (!vStm d) = false) (fun i => l.length - i) 0 ⟨Nat.zero_le _, fun j d h => by omega⟩ 0 rfl (fun _ => rfl) zLes (fun _ => rfl) (fun _ => rfl) zLe ?_
 rintro i ⟨hi, hc⟩
 (repeat' (first | refine zS ?_ | (refine zT ?_ ?_ <;> intro h <;> first | exact zX | refine zNq ?_)))
 ·(refine pl_op rfl (op_fun (c_valid2 (l.getD i default)) rfl rfl e72 zLe rfl (fun r hr => ?_)); subst hr; refine ⟨rfl, ?_⟩; (refine zNp ?_))
  have hlt : i < l.length := by omega
  (repeat' (first | refine zS ?_ | (refine zT ?_ ?_ <;> intro h <;> first | exact zX | refine zNq ?_)))
  ·rw [firstAt_hit hlt (p := fun s => !vStm s) (by rw [List.getD, List.getElem?_eq_getElem hlt] at h; simpa using h) hc]
   exact ret2 _ rfl rfl rfl
  ·refine ⟨i + 1, ⟨by omega, fun j d hj hd => ?_⟩, by omega, zLe, zLes⟩
   rcases Nat.lt_succ_iff_lt_or_eq.1 hj with hj | rfl
   ·exact hc j d hj hd
   ·rw [List.getD, hd] at h; simpa using h
 ·rw [firstAt_miss fun j x hj => hc j x (by have := (List.getElem?_eq_some_iff.1 hj).1; omega) hj]
  exact ret2 _ rfl rfl rfl
theorem firstAt_all (l : List TStm) : (!decide (firstAt (fun s => !vStm s) l ≥ 0)) = l.all vStm := by
 unfold firstAt
 cases h : l.findIdx? fun s => !vStm s with
 | none =>
  rw [List.findIdx?_eq_none_iff] at h
  rw [List.all_eq_true.2 fun x hx => by simpa using h x hx]
  rfl
 | some k =>
  rw [List.findIdx?_eq_some_iff_getElem] at h
  obtain ⟨hk, h1, _⟩ := h
  rw [List.all_eq_false.2 ⟨l[k], List.getElem_mem hk, by simpa using h1⟩]
  show (!decide ((k : Int) ≥ 0)) = false
  rw [decide_eq_true (by omega)]
  rfl
instance iIdxStm (l : List TStm) : ConF Tryz.prog Gl 120 [.sl (l.map eStm), .fn 72 []] (l.length < 1000000) (.int .i64 (firstAt (fun s => !vStm s) l)) := ⟨e120, fun h => c_idxStm l h⟩
theorem c_hasStm (l : List TStm) (hl : l.length < 1000000) : PFun Tryz.prog Gl 71 [.sl (l.map eStm), .fn 72 []] fun r => r = .bool (decide (firstAt (fun s => !vStm s) l ≥ 0)) := by
 (refine PFun.of hT Tryz.func71 rfl fun B hD => ?_; refine pw_norm rfl ?_)
 (repeat' (first | refine zS ?_ | (refine zT ?_ ?_ <;> intro h <;> first | exact zX | refine zNq ?_)))
 exact ret2 _ rfl rfl rfl
instance iHasStm (l : List TStm) : ConF Tryz.prog Gl 71 [.sl (l.map eStm), .fn 72 []] (l.length < 1000000) (.bool (decide (firstAt (fun s => !vStm s) l ≥ 0))) := ⟨e71, fun h => c_hasStm l h⟩
end
section
variable {Gl : Glob}
attribute [local irreducible] PW PWL OpP PCalls PWO vname vDefs vStm wOkB wFormat PWT bothT
instance iValidDefs (l : List TDef) (sv : Bool) : ConF Tryz.prog Gl 67 [.sl (l.map eDef), .bool sv] (l.length < 1000000 ∧ ∀ d ∈ l, d.items.length < 1000000) (.bool (vDefs l sv)) := ⟨e67, fun h => c_validDefs l sv h.1 h.2⟩
theorem all_getD {α : Type} [Inhabited α] {p : α → Bool} {l : List α} {k : Nat} (hk : ¬ k < l.length) (h : ∀ j, j < k → p (l.getD j default) = true) : l.all p = true := List.all_eq_true.2 fun x hx => by
 obtain ⟨n, hn⟩ := List.mem_iff_getElem?.1 hx
 have := h n (by have := (List.getElem?_eq_some_iff.1 hn).1; omega)
 rwa [List.getD, hn] at this
theorem c_iValid (hD' : GD Gl) (i : TInt) (hb : IBig i) (hi : ∀ d ∈ i.windows, d.active.length < 100000 ∧ ∀ r ∈ d.active, RIn r) : PFun Tryz.prog Gl 29 [eIntent i] fun r => r = .bool (iValid i) := by
 (refine PFun.of hT Tryz.func29 rfl fun B hD => ?_; refine pw_norm rfl ?_)
 have h1 := hb.groups
 have h2 := hb.services
 have h3 := hb.windows
 have h4 := hb.stms
 have h5 := hb.pubs
 have h6 := hb.hids
 have h7 := hb.gitems
 have h8 := hb.sitems
 have hsm : Small i.windows := by unfold Small; omega
 have h11 : ∀ k, (i.windows.getD k default).active.length < 100000 ∧ ∀ r ∈ (i.windows.getD k default).active, RIn r := fun k => by
  rw [List.getD]
  cases e : i.windows[k]? with
  | none => exact ⟨by decide, fun r hr => by cases hr⟩
  | some x => exact hi x (List.mem_of_getElem? e)
 unfold iValid
 generalize hS : (((((vDefs i.groups false && vDefs i.services true) && decide (i.windows.length ≤ 32)) && decide (i.stms.length ≤ 64)) && decide (i.pubs.length ≤ 16)) && decide (i.hids.length ≤ 8)) = S
 have hSi : S = true ↔ ((((vDefs i.groups false = true ∧ vDefs i.services true = true) ∧ i.windows.length ≤ 32) ∧ i.stms.length ≤ 64) ∧ i.pubs.length ≤ 16) ∧ i.hids.length ≤ 8 := by
  rw [← hS]
  simp only [Bool.and_eq_true, decide_eq_true_eq]
 (repeat' (first | refine zS ?_ | refine zq5 ?_ | refine zq6 ?_ | (refine zT ?_ ?_ <;> intro h <;> first | exact zX | refine zNq ?_)))
 ·have e : S = false := by
   rw [Bool.eq_false_iff]
   intro q
   obtain ⟨⟨⟨⟨⟨a, b⟩, c⟩, d⟩, e⟩, f⟩ := hSi.1 q
   rcases h with ((((h | h) | h) | h) | h) | h
   ·exact h a
   ·exact h b
   ·omega
   ·omega
   ·omega
   ·omega
  rw [e, Bool.false_and]
  exact ret2 _ rfl rfl rfl
 have e : S = true := hSi.2 ⟨⟨⟨⟨⟨Decidable.not_not.1 fun a => h (.inl (.inl (.inl (.inl (.inl a))))), Decidable.not_not.1 fun a => h (.inl (.inl (.inl (.inl (.inr a)))))⟩, by omega⟩, by omega⟩, by omega⟩, by omega⟩
 rw [e, Bool.true_and]
 clear hSi hS h e
 refine pw_for hD (fun k : Nat => [(49, .int .i64 k)]) (fun _ => [.box [.sl (i.groups.map eDef), .sl (i.services.map eDef), .sl (i.windows.map eWin), .sl (i.stms.map eStm), .sl (i.pubs.map ePub), .sl (i.hids.map eHid)]]) (fun k => k ≤ i.windows.length ∧ ∀ j, j < k → wWin i.windows j = true) (fun k => i.windows.length - k) 0 ⟨Nat.zero_le _, fun j h => by omega⟩ 1 rfl (fun _ => rfl) zLes (fun _ => rfl) (fun _ => rfl) zLe ?_
 rintro k ⟨hk, hkc⟩
 obtain ⟨h11, h12⟩ := h11 k
 (repeat' (first | refine zS ?_ | refine zq5 ?_ | refine zq6 ?_ | (refine zT ?_ ?_ <;> intro h <;> first | exact zX | refine zNq ?_)))
 ·have e : wWin i.windows k = false := by
   unfold wWin
   rcases h with (h | h) | h
   ·rw [show wOkB (i.windows.getD k default).active = false by simpa using h, Bool.and_false]
   ·rw [show vname (i.windows.getD k default).name = false by simpa using h]; rfl
   ·rw [decide_eq_false (show ¬ firstAt (fun x : TWin => x.name == (i.windows.getD k default).name) i.windows = k from h), Bool.and_false, Bool.false_and]
  rw [show (List.range i.windows.length).all (wWin i.windows) = false from List.all_eq_false.2 ⟨k, List.mem_range.2 (by omega), by rw [e]; decide⟩]
  simp only [Bool.false_and]
  exact ret2 _ rfl rfl rfl
 ·refine ⟨k + 1, ⟨by omega, fun j hj => ?_⟩, by omega, zLe, zLes⟩
  rcases Nat.lt_succ_iff_lt_or_eq.1 hj with hj | rfl
  ·exact hkc j hj
  ·unfold wWin
   rw [Decidable.not_not.1 fun q => h (.inl (.inr q)), decide_eq_true (show firstAt (fun x : TWin => x.name == (i.windows.getD j default).name) i.windows = j from Decidable.not_not.1 fun q => h (.inr q)), Decidable.not_not.1 fun q => h (.inl (.inl q))]
   rfl
 rw [show (List.range i.windows.length).all (wWin i.windows) = true from List.all_eq_true.2 fun j hj => hkc j (by have := List.mem_range.1 hj; omega), Bool.true_and]
 clear h11 h12
 refine pw_for hD (fun k : Nat => [(81, .int .i64 k)]) (fun _ => [.box [.sl (i.groups.map eDef), .sl (i.services.map eDef), .sl (i.windows.map eWin), .sl (i.stms.map eStm), .sl (i.pubs.map ePub), .sl (i.hids.map eHid)]]) (fun k => k ≤ i.pubs.length ∧ ∀ j, j < k → vPub (i.pubs.getD j default) = true) (fun k => i.pubs.length - k) 0 ⟨Nat.zero_le _, fun j h => by omega⟩ 1 rfl (fun _ => rfl) zLes (fun _ => rfl) (fun _ => rfl) zLe ?_
 rintro k ⟨hk, hkc⟩
 (repeat' (first | refine zS ?_ | refine zq5 ?_ | refine zq6 ?_ | (refine zT ?_ ?_ <;> intro h <;> first | exact zX | refine zNq ?_)))
 ·have e : ¬ vPub (i.pubs.getD k default) = true := fun q => by
   unfold vPub at q
   simp only [Bool.and_eq_true, Bool.or_eq_true, decide_eq_true_eq, beq_iff_eq] at q
   obtain ⟨⟨⟨a, b⟩, c⟩, d⟩ := q
   rcases h with ((h | h) | h) | h
   ·omega
   ·exact h b
   ·exact h c
   ·exact h d
  rw [show i.pubs.all vPub = false from List.all_eq_false.2 ⟨_, getD_memD (by omega), e⟩]
  simp only [Bool.false_and, Bool.and_false]
  exact ret2 _ rfl rfl rfl
 ·refine ⟨k + 1, ⟨by omega, fun j hj => ?_⟩, by omega, zLe, zLes⟩
  rcases Nat.lt_succ_iff_lt_or_eq.1 hj with hj | rfl
  ·exact hkc j hj
  ·unfold vPub
   simp only [Bool.and_eq_true, Bool.or_eq_true, decide_eq_true_eq, beq_iff_eq]
   refine ⟨⟨⟨by omega, by omega⟩, by omega⟩, Decidable.not_not.1 fun q => h (.inr q)⟩
 rw [show i.pubs.all vPub = true from all_getD (by omega) hkc]
 refine pw_for hD (fun k : Nat => [(117, .int .i64 k)]) (fun _ => [.box [.sl (i.groups.map eDef), .sl (i.services.map eDef), .sl (i.windows.map eWin), .sl (i.stms.map eStm), .sl (i.pubs.map ePub), .sl (i.hids.map eHid)]]) (fun k => k ≤ i.hids.length ∧ ∀ j, j < k → vHid (i.hids.getD j default) = true) (fun k => i.hids.length - k) 0 ⟨Nat.zero_le _, fun j h => by omega⟩ 1 rfl (fun _ => rfl) zLes (fun _ => rfl) (fun _ => rfl) zLe ?_
 rintro k ⟨hk, hkc⟩
 (repeat' (first | refine zS ?_ | refine zq5 ?_ | refine zq6 ?_ | (refine zT ?_ ?_ <;> intro h <;> first | exact zX | refine zNq ?_)))
 ·have e : ¬ vHid (i.hids.getD k default) = true := fun q => by
   unfold vHid at q
   simp only [Bool.and_eq_true, decide_eq_true_eq] at q
   obtain ⟨⟨a, b⟩, ⟨c, d⟩, e⟩ := q
   rcases h with (((h | h) | h) | h) | h
   ·exact h a
   ·exact h b
   ·omega
   ·omega
   ·omega
  rw [show i.hids.all vHid = false from List.all_eq_false.2 ⟨_, getD_memD (by omega), e⟩]
  simp only [Bool.and_false]
  exact ret2 _ rfl rfl rfl
 ·refine ⟨k + 1, ⟨by omega, fun j hj => ?_⟩, by omega, zLe, zLes⟩
  rcases Nat.lt_succ_iff_lt_or_eq.1 hj with hj | rfl
  ·exact hkc j hj
  ·unfold vHid
   simp only [Bool.and_eq_true, decide_eq_true_eq]
   exact ⟨⟨Decidable.not_not.1 fun q => h (.inl (.inl (.inl (.inl q)))), Decidable.not_not.1 fun q => h (.inl (.inl (.inl (.inr q))))⟩, ⟨by omega, by omega⟩, by omega⟩
 rw [show i.hids.all vHid = true from all_getD (by omega) hkc]
 (repeat' (first | refine zS ?_ | refine zq5 ?_ | refine zq6 ?_ | (refine zT ?_ ?_ <;> intro h <;> first | exact zX | refine zNq ?_)))
 refine ret2 _ rfl ?_ rfl
 rw [firstAt_all, Bool.and_true, Bool.and_true]
end
section
variable {Gl : Glob}
attribute [local irreducible] PW PWL OpP PCalls PWO iValid wFormat PWT bothT
def fmst (i : TInt) (out : List TLine) (cap : Nat) : List PObj := [.box (eIntent i).cells, .box [.msl 2 3 0 (out.map eLine).length cap], .box [.fn 58 [.ptr 1 0]], .arr 2 (out.map eLine) cap]
theorem c_format (hG : GT Gl) (hD' : GD Gl) (i : TInt) (hb : IBig i) (hi : IIn2 i) : PFun Tryz.prog Gl 28 [eIntent i] fun r => r = .tup [.str (iFormat i).1, .int .i64 (iFormat i).2] := by
 (refine PFun.of hT Tryz.func28 rfl fun B hD => ?_; refine pw_norm rfl ?_)
 (try refine zS ?_)
 (refine pl_op rfl (op_fun (c_iValid hD' i hb hi.wins) rfl rfl e29 zLe rfl (fun r hr => ?_)); subst hr; refine ⟨rfl, ?_⟩; (refine zNp ?_))
 (try refine zS ?_)
 refine zT ?_ ?_ <;> intro h <;> refine zNq ?_
 ·have e : iFormat i = ([], 1) := by unfold iFormat; rw [if_neg h]
  rw [e]
  (try refine zS ?_)
  exact ret2 _ rfl rfl rfl
 have h' : iValid i = true := Decidable.not_not.1 h
 have e : iFormat i = (textS (iLines i), 0) := by unfold iFormat; rw [if_pos h']
 rw [e]
 have hv := iValid_v h'
 have htl := iText_len hv hi.toIIn
 have hln := iLines_len hv
 have hfl := iLines_fl hv hi.toIIn
 clear e h h'
 have hl1 := hv.gs.len
 have hl2 := hv.ss.len
 have hl3 := hv.wl
 have hl4 := hv.sl
 have hl5 := hv.pl
 have hl6 := hv.hl
 have k1 : (lGroups i).length ≤ 32 := by simp only [lGroups, List.length_map]; omega
 have k2 : (lGroups i ++ lServices i).length ≤ 64 := by rw [List.length_append]; simp only [lServices, List.length_map]; omega
 have k3 : ((lGroups i ++ lServices i) ++ lWindows i).length ≤ 96 := by rw [List.length_append]; simp only [lWindows, List.length_map]; omega
 have k4 : (((lGroups i ++ lServices i) ++ lWindows i) ++ lStms i).length ≤ 160 := by rw [List.length_append]; simp only [lStms, List.length_map]; omega
 have k5 : ((((lGroups i ++ lServices i) ++ lWindows i) ++ lStms i) ++ lPubs i).length ≤ 176 := by rw [List.length_append]; simp only [lPubs, List.length_map]; omega
 have k6 : (iLines i).length ≤ 184 := hln
 (try refine zS ?_)
 refine pl_ghost 2 ?_
 (refine zNp ?_)
 refine pl_weaken (st' := fmst i [] 0) (Go.Pw.Le.refl _) ⟨.inl rfl, .inr (.inr ⟨_, _, rfl, rfl, .inr (.inr (.inr (.inl ⟨rfl, _, _, rfl⟩))), trivial⟩), .inl rfl, .inl rfl, trivial⟩ ?_
 unfold fmst
 (refine zNp ?_)
 (refine pl_op rfl (op_callA [1, 2, 3] rfl rfl e59 (by decide) rfl rfl rfl zLe zLes (c_define2 hG i.groups true [] 0 hl1 (by decide) (fun d hd => ⟨hv.gs.i2 d hd, fun x hx => vItem_f (hv.gs.items _ hd x hx) (hi.gits _ hd x hx)⟩)) (fun r s hq => ?_)); obtain ⟨rfl, cap, rfl⟩ := hq; refine ⟨rfl, rfl, ?_⟩; (refine zNp ?_))
 refine pl_nil ?_
 (refine pw_mv 3 6 hD rfl rfl rfl rfl rfl ?_; refine pw_norm rfl ?_)
 (refine pw_trim 4 hD rfl rfl ?_; refine pw_norm rfl ?_)
 refine pw_st (st' := fmst i (lGroups i) cap) rfl ?_
 unfold fmst
 refine zNq ?_
 (try refine zS ?_)
 (refine pl_op rfl (op_callA [1, 2, 3] rfl rfl e59 (by decide) rfl rfl rfl zLe zLes (c_define2 hG i.services false (lGroups i) cap hl2 (by omega) (fun d hd => ⟨hv.ss.i2 d hd, fun x hx => vItem_f (hv.ss.items _ hd x hx) (hi.sits _ hd x hx)⟩)) (fun r s hq => ?_)); obtain ⟨rfl, cap2, rfl⟩ := hq; refine ⟨rfl, rfl, ?_⟩; (refine zNp ?_))
 refine pl_nil ?_
 (refine pw_mv 3 6 hD rfl rfl rfl rfl rfl ?_; refine pw_norm rfl ?_)
 (refine pw_trim 4 hD rfl rfl ?_; refine pw_norm rfl ?_)
 refine pw_st (st' := fmst i (lGroups i ++ lServices i) cap2) rfl ?_
 unfold fmst
 refine zNq ?_
 (try refine zS ?_)
 refine zNq ?_
 refine pw_for hD (fun a : Nat × List TLine × Nat => [(34, .int .i64 a.1)]) (fun a => fmst i a.2.1 a.2.2) (fun a => a.1 ≤ i.windows.length ∧ a.2.1 ++ (i.windows.drop a.1).map (fun d => ln (winW d)) = (lGroups i ++ lServices i) ++ lWindows i) (fun a => i.windows.length - a.1) (0, lGroups i ++ lServices i, cap2) ⟨Nat.zero_le _, rfl⟩ 4 rfl (fun _ => rfl) (by unfold fmst; (exact zLes)) (fun _ => rfl) (fun _ => rfl) zLe ?_
 rintro ⟨k, out, cap⟩ ⟨hk, hw⟩
 dsimp only at hk hw ⊢
 have ho := outLen hw
 unfold fmst
 refine zNq ?_
 (try refine zS ?_)
 refine zT ?_ ?_ <;> intro h <;> refine zNq ?_
 ·have hlt : k < i.windows.length := by omega
  have hw2 := selD (fun d => ln (winW d)) i.windows k hlt out _ hw
  have hm := getD_memD hlt
  have hwo := wOk_len (hv.wok _ hm)
  obtain ⟨hw3, hw4⟩ := hi.wins _ hm
  (try refine zS ?_)
  refine zDr [[0,1,2,4],[3,5,6]] ?_
  refine zDn ?_
  (refine zDgo ?_)
  (refine po_step rfl rfl (op_litm hT rfl rfl rfl rfl rfl (by decide) rfl rfl rfl rfl ⟨zLok, ?_⟩); refine zDn ?_)
  (refine po_step rfl rfl (op_appendF (b := 16) hT rfl rfl rfl rfl (by simp) rfl (by first | rfl | (simp only [List.all_map]; exact List.all_eq_true.2 fun _ _ => rfl)) (by first | rfl | (simp only [List.all_map]; exact List.all_eq_true.2 fun _ _ => rfl)) (by simp only [List.length_map, List.length_cons, List.length_nil]; omega) ⟨(by (repeat (first | exact True.intro | refine ⟨.inr rfl, ?_⟩ | refine ⟨.inl (by decide +kernel), ?_⟩))), ?_⟩); (first | refine po_norm rfl ?_ | refine po_normE rfl ?_))
  (refine po_step rfl rfl (op_callA [1, 3] rfl rfl e58 (by decide) rfl rfl rfl zLe zLes (c_add1 (winW (i.windows.getD k default)) out cap (by omega)) (fun r s hq => ?_)); obtain ⟨rfl, cap', rfl⟩ := hq; refine ⟨rfl, rfl, zLok, ?_⟩; refine zDn ?_)
  (refine zDgo ?_)
  (refine pw_mv 3 8 hD rfl rfl rfl rfl rfl ?_; refine pw_norm rfl ?_)
  (try refine zS ?_)
  refine ⟨(k + 1, out ++ [ln (winW (i.windows.getD k default))], cap'), ⟨hlt, hw2⟩, by dsimp only; omega, ?_, ?_⟩
  ·(exact zLe)
  ·(try unfold fmst)
   (exact zLes)
 have hz : k = i.windows.length := by omega
 have hout := outEnd hw (by omega)
 subst hz hout
 clear hw ho h hk
 (try refine zS ?_)
 refine zNq ?_
 refine pw_for hD (fun a : Nat × List TLine × Nat => [(55, .int .i64 a.1)]) (fun a => fmst i a.2.1 a.2.2) (fun a => a.1 ≤ i.stms.length ∧ a.2.1 ++ (i.stms.drop a.1).map (fun d => ln (stmW d)) = ((lGroups i ++ lServices i) ++ lWindows i) ++ lStms i) (fun a => i.stms.length - a.1) (0, (lGroups i ++ lServices i) ++ lWindows i, cap) ⟨Nat.zero_le _, rfl⟩ 4 rfl (fun _ => rfl) (by unfold fmst; (exact zLes)) (fun _ => rfl) (fun _ => rfl) zLe ?_
 rintro ⟨k, out, cap⟩ ⟨hk, hw⟩
 dsimp only at hk hw ⊢
 have ho := outLen hw
 unfold fmst
 refine zNq ?_
 (try refine zS ?_)
 refine zT ?_ ?_ <;> intro h <;> refine zNq ?_
 ·have hlt : k < i.stms.length := by omega
  have hw2 := selD (fun d => ln (stmW d)) i.stms k hlt out _ hw
  have hm := getD_memD hlt
  have hpr := stm_prio (hv.stms _ hm)
  (try refine zS ?_)
  refine zDr [[0,1],[2,3]] ?_
  refine zDn ?_
  refine zD ?_
  (refine po_step rfl rfl (op_callA [1, 3] rfl rfl e58 (by decide) rfl rfl rfl zLe zLes (c_add1 (stmW (i.stms.getD k default)) out cap (by omega)) (fun r s hq => ?_)); obtain ⟨rfl, cap', rfl⟩ := hq; refine ⟨rfl, rfl, zLok, ?_⟩; refine zDn ?_)
  (refine zDgo ?_)
  (refine pw_mv 3 6 hD rfl rfl rfl rfl rfl ?_; refine pw_norm rfl ?_)
  (try refine zS ?_)
  refine ⟨(k + 1, out ++ [ln (stmW (i.stms.getD k default))], cap'), ⟨hlt, hw2⟩, by dsimp only; omega, ?_, ?_⟩
  ·(exact zLe)
  ·(try unfold fmst)
   (exact zLes)
 have hz : k = i.stms.length := by omega
 have hout := outEnd hw (by omega)
 subst hz hout
 clear hw ho h hk
 (try refine zS ?_)
 refine zNq ?_
 refine pw_for hD (fun a : Nat × List TLine × Nat => [(67, .int .i64 a.1)]) (fun a => fmst i a.2.1 a.2.2) (fun a => a.1 ≤ i.pubs.length ∧ a.2.1 ++ (i.pubs.drop a.1).map (fun d => ln (pubW d)) = (((lGroups i ++ lServices i) ++ lWindows i) ++ lStms i) ++ lPubs i) (fun a => i.pubs.length - a.1) (0, ((lGroups i ++ lServices i) ++ lWindows i) ++ lStms i, cap) ⟨Nat.zero_le _, rfl⟩ 4 rfl (fun _ => rfl) (by unfold fmst; (exact zLes)) (fun _ => rfl) (fun _ => rfl) zLe ?_
 rintro ⟨k, out, cap⟩ ⟨hk, hw⟩
 dsimp only at hk hw ⊢
 have ho := outLen hw
 unfold fmst
 refine zNq ?_
 (try refine zS ?_)
 refine zT ?_ ?_ <;> intro h <;> refine zNq ?_
 ·have hlt : k < i.pubs.length := by omega
  have hw2 := selD (fun d => ln (pubW d)) i.pubs k hlt out _ hw
  have hm := getD_memD hlt
  obtain ⟨hp1, hp2, hp3, _⟩ := pub_f (hv.pubs _ hm)
  obtain ⟨hp4, hp5⟩ := hi.pins _ hm
  (try refine zS ?_)
  refine pw_joinX hD (fun _ : Unit => True) (fun _ => [(15, .str (if (i.pubs.getD k default).proto = 17 then [117, 100, 112] else [116, 99, 112])), (73, .any)]) (fun _ => fmst i out cap ++ [.box (ePub (i.pubs.getD k default)).cells]) 5 rfl (fun _ => rfl) (fun _ => rfl) (fun _ => rfl) ?_ ?_
  ·refine zT ?_ ?_ <;> intro h1 <;> refine zNq ?_
   ·rw [if_pos h1]
    (try refine zS ?_)
    exact ⟨(), trivial, zLe, by unfold fmst; (exact zLes)⟩
   ·rw [if_neg h1]
    (try refine zS ?_)
    exact ⟨(), trivial, zLe, by unfold fmst; (exact zLes)⟩
  rintro _ _
  unfold fmst
  refine zNq ?_
  (try refine zS ?_)
  refine zDr [[0,1,2,4,5,6,8,9,10,11,13,14],[3,7,12,15],[16],[17]] ?_
  refine zDn ?_
  refine zD ?_
  (refine po_step rfl rfl (op_callA [1, 3] rfl rfl e58 (by decide) rfl rfl rfl zLe zLes (c_add1 (pubW (i.pubs.getD k default)) out cap (by omega)) (fun r s hq => ?_)); obtain ⟨rfl, cap', rfl⟩ := hq; refine ⟨rfl, rfl, zLok, ?_⟩; refine zDn ?_)
  (refine zDgo ?_)
  (refine pw_mv 3 6 hD rfl rfl rfl rfl rfl ?_; refine pw_norm rfl ?_)
  (try refine zS ?_)
  refine ⟨(k + 1, out ++ [ln (pubW (i.pubs.getD k default))], cap'), ⟨hlt, hw2⟩, by dsimp only; omega, ?_, ?_⟩
  ·(exact zLe)
  ·(try unfold fmst)
   (exact zLes)
 have hz : k = i.pubs.length := by omega
 have hout := outEnd hw (by omega)
 subst hz hout
 clear hw ho h hk
 (try refine zS ?_)
 refine zNq ?_
 refine pw_for hD (fun a : Nat × List TLine × Nat => [(96, .int .i64 a.1)]) (fun a => fmst i a.2.1 a.2.2) (fun a => a.1 ≤ i.hids.length ∧ a.2.1 ++ (i.hids.drop a.1).map (fun d => ln (hidW d)) = iLines i) (fun a => i.hids.length - a.1) (0, (((lGroups i ++ lServices i) ++ lWindows i) ++ lStms i) ++ lPubs i, cap) ⟨Nat.zero_le _, rfl⟩ 4 rfl (fun _ => rfl) (by unfold fmst; (exact zLes)) (fun _ => rfl) (fun _ => rfl) zLe ?_
 rintro ⟨k, out, cap⟩ ⟨hk, hw⟩
 dsimp only at hk hw ⊢
 have ho := outLen hw
 unfold fmst
 refine zNq ?_
 (try refine zS ?_)
 refine zT ?_ ?_ <;> intro h <;> refine zNq ?_
 ·have hlt : k < i.hids.length := by omega
  have hw2 := selD (fun d => ln (hidW d)) i.hids k hlt out _ hw
  have hm := getD_memD hlt
  obtain ⟨hp1, hp2, hp3⟩ := hid_f (hv.hids _ hm)
  have hp4 := hid_pin (hv.hids _ hm)
  have hp5 := hi.hins _ hm
  (try refine zS ?_)
  refine zDr [[0,1,2,3,4,5,6,8,9],[7,10],[11],[12]] ?_
  refine zDn ?_
  refine zD ?_
  (refine po_step rfl rfl (op_callA [1, 3] rfl rfl e58 (by decide) rfl rfl rfl zLe zLes (c_add1 (hidW (i.hids.getD k default)) out cap (by omega)) (fun r s hq => ?_)); obtain ⟨rfl, cap', rfl⟩ := hq; refine ⟨rfl, rfl, zLok, ?_⟩; refine zDn ?_)
  (refine zDgo ?_)
  (refine pw_mv 3 6 hD rfl rfl rfl rfl rfl ?_; refine pw_norm rfl ?_)
  (try refine zS ?_)
  refine ⟨(k + 1, out ++ [ln (hidW (i.hids.getD k default))], cap'), ⟨hlt, hw2⟩, by dsimp only; omega, ?_, ?_⟩
  ·(exact zLe)
  ·(try unfold fmst)
   (exact zLes)
 have hz : k = i.hids.length := by omega
 have hout := outEnd hw (by omega)
 subst hz hout
 clear hw ho h hk
 (try refine zS ?_)
 have hj := c80g (Gl := Gl) (iLines i) (by omega) (fun x hx => ⟨fun e => by have := (hfl x hx).some; rw [e] at this; exact absurd this (by decide), by have := (hfl x hx).few; omega⟩) (by omega)
 (refine pl_op rfl (op_lend0 hj rfl rfl e66 ⟨.inr (.inr (.inr (.inl ⟨_, _, _, _, _, _, rfl, rfl, rfl, rfl, rfl⟩))), trivial⟩ rfl (fun r hr => ?_)); subst hr; refine ⟨rfl, ?_⟩; (refine zNp ?_))
 (try refine zS ?_)
 exact ret2 _ rfl rfl rfl
end
section
def int0 : TInt := ⟨[], [], [], [], [], []⟩
def iLine (i : TInt) (w : List Str) : Int × TInt :=
 if w.getD 0 [] = [103, 114, 111, 117, 112] then ((pDef i.groups w false).1, { i with groups := (pDef i.groups w false).2 }) else
 if w.getD 0 [] = [115, 101, 114, 118, 105, 99, 101] then ((pDef i.services w true).1, { i with services := (pDef i.services w true).2 }) else
 if w.getD 0 [] = [119, 105, 110, 100, 111, 119] then ((pWin i.windows w).1, { i with windows := (pWin i.windows w).2 }) else
 if w.getD 0 [] = [97, 108, 108, 111, 119] then ((pStm i.stms w).1, { i with stms := (pStm i.stms w).2 }) else
 if w.getD 0 [] = [100, 101, 110, 121] then ((pStm i.stms w).1, { i with stms := (pStm i.stms w).2 }) else
 if w.getD 0 [] = [112, 117, 98, 108, 105, 115, 104] then ((pPub i.pubs w).1, { i with pubs := (pPub i.pubs w).2 }) else
 if w.getD 0 [] = [104, 105, 100, 101] then ((pHid i.hids w).1, { i with hids := (pHid i.hids w).2 }) else (4, i)
structure ILim (i : TInt) : Prop where
 groups : i.groups.length ≤ 32
 services : i.services.length ≤ 32
 windows : i.windows.length ≤ 32
 stms : i.stms.length ≤ 64
 pubs : i.pubs.length ≤ 16
 hids : i.hids.length ≤ 8
theorem pDef_lim {l : List TDef} (h : l.length ≤ 32) (w : List Str) (sv : Bool) : (pDef l w sv).2.length ≤ 32 := by
 unfold pDef
 repeat' (split; · exact h)
 rename_i h4
 simp; omega
theorem pWin_lim {l : List TWin} (h : l.length ≤ 32) (w : List Str) : (pWin l w).2.length ≤ 32 := by
 unfold pWin
 repeat' (split; · exact h)
 rename_i h4
 simp; omega
theorem pStm_lim {l : List TStm} (h : l.length ≤ 64) (w : List Str) : (pStm l w).2.length ≤ 64 := by
 unfold pStm
 repeat' (split; · exact h)
 rename_i h4
 simp; omega
theorem pPub_lim {l : List TPub} (h : l.length ≤ 16) (w : List Str) : (pPub l w).2.length ≤ 16 := by
 unfold pPub
 repeat' (split; · exact h)
 rename_i h4
 simp; omega
theorem pHid_lim {l : List THid} (h : l.length ≤ 8) (w : List Str) : (pHid l w).2.length ≤ 8 := by
 unfold pHid
 repeat' (split; · exact h)
 rename_i h4
 simp; omega
theorem iLine_lim {i : TInt} (h : ILim i) (w : List Str) : ILim (iLine i w).2 := by
 unfold iLine
 split
 ·exact { h with groups := pDef_lim h.groups w false }
 split
 ·exact { h with services := pDef_lim h.services w true }
 split
 ·exact { h with windows := pWin_lim h.windows w }
 split
 ·exact { h with stms := pStm_lim h.stms w }
 split
 ·exact { h with stms := pStm_lim h.stms w }
 split
 ·exact { h with pubs := pPub_lim h.pubs w }
 split
 ·exact { h with hids := pHid_lim h.hids w }
 ·exact h
theorem int0_lim : ILim int0 := ⟨by decide, by decide, by decide, by decide, by decide, by decide⟩
def iRun : List TLine → TInt → TInt × Int × Int
 | [], i => (i, 0, 0)
 | l :: ls, i => if ¬ (iLine i l.words).1 = 0 then (int0, l.num, (iLine i l.words).1) else iRun ls (iLine i l.words).2
def iParse (s : Str) : TInt × Int × Int := if ¬ (lines s).2.2 = 0 then (int0, (lines s).2.1, (lines s).2.2) else iRun (lines s).1 int0
instance : Inhabited TLine := ⟨⟨0, []⟩⟩
theorem iRun_drop {ls : List TLine} {k : Nat} (h : k < ls.length) (i : TInt) : iRun (ls.drop k) i = if ¬ (iLine i (ls.getD k default).words).1 = 0 then (int0, (ls.getD k default).num, (iLine i (ls.getD k default).words).1) else iRun (ls.drop (k + 1)) (iLine i (ls.getD k default).words).2 := by
 rw [List.drop_eq_getElem_cons h, iRun, List.getD, List.getElem?_eq_getElem h]; rfl
theorem lrun_64 : ∀ (ls : List Str) (i : Nat) (out : List TLine), (∀ x ∈ out, x.words.length ≤ 64) → ∀ x ∈ (lrun ls i out).1, x.words.length ≤ 64
 | [], i, out, ho => ho
 | l :: ls, i, out, ho => by
  rw [lrun]
  split
  ·simp
  ·split
   ·simp
   ·rename_i h64
    split
    ·refine lrun_64 ls (i + 1) _ fun x hx => ?_
     rcases List.mem_append.1 hx with hx | hx
     ·exact ho x hx
     ·rw [List.mem_singleton] at hx; subst hx
      simp at h64
      show (words l).length ≤ 64
      omega
    ·exact lrun_64 ls (i + 1) _ ho
theorem lines_64 (s : Str) : ∀ x ∈ (lines s).1, x.words.length ≤ 64 := by
 unfold lines
 split
 ·simp
 ·exact lrun_64 _ _ _ (by simp)
theorem line_at {s : Str} {ls : List TLine} (h : (lines s).1 = ls) {k : Nat} (hk : k < ls.length) : 0 < (ls.getD k default).words.length ∧ (ls.getD k default).words.length ≤ 64 ∧ WOk (ls.getD k default).words := by
 subst h
 rw [List.getD, List.getElem?_eq_getElem hk]
 exact ⟨(lines_ok s).some _ (List.getElem_mem hk), lines_64 s _ (List.getElem_mem hk), (lines_ok s).ok _ (List.getElem_mem hk)⟩
def saneI1 : Str := [115, 101, 114, 118, 105, 99, 101, 32, 119, 101, 98, 32, 61, 32, 116, 99, 112, 32, 56, 48, 32, 44, 32, 116, 99, 112, 32, 52, 52, 51] ++ [10] ++ [97, 108, 108, 111, 119, 32, 97, 110, 121, 32, 45, 62, 32, 115, 101, 114, 118, 101, 114, 115, 32, 119, 101, 98, 32, 101, 120, 99, 101, 112, 116, 32, 103, 117, 101, 115, 116, 115, 32, 45, 62, 32, 97, 110, 121, 32, 118, 105, 97, 32, 105, 112, 115, 32, 100, 117, 114, 105, 110, 103, 32, 119, 111, 114, 107, 32, 112, 114, 105, 111, 114, 105, 116, 121, 32, 53]
def saneI2 : Str := [115, 101, 114, 118, 105, 99, 101, 32, 120, 32, 61, 32, 112, 114, 111, 116, 111, 32, 54]
def saneStm : TStm := ⟨true, [], [115, 101, 114, 118, 101, 114, 115], [119, 101, 98], true, [103, 117, 101, 115, 116, 115], [], [105, 112, 115], [119, 111, 114, 107], 5⟩
def saneI : TInt := ⟨[], [⟨[119, 101, 98], [⟨4, [], pfx0, 6, ⟨80, 80⟩⟩, ⟨4, [], pfx0, 6, ⟨443, 443⟩⟩]⟩], [], [saneStm], [], []⟩
theorem saneI1_is : iParse saneI1 = (saneI, 0, 0) := by kernel_rfl
theorem saneI2_is : iParse saneI2 = (int0, 1, 2) := by kernel_rfl

end
end Go.Proofs.YtkaobkjcjodffaaGreatDoor