/-
 Slices of slices; the least and the greatest.
 Operations that make and write objects.
-/
import Derived.Test.YtokclomhkggikaaGreatDoorVEvInt
namespace Go.Ev
open Go
noncomputable section
section
variable {P : Program} {gl : List (Nat × List V)} {CO : Call → Prop} {β : List Nat}
def BndR (ρ : Operand → Value) (x : Option Operand) (dflt top n : Nat) : Prop := (x = none ∧ n = dflt) ∨ ∃ y kd, x = some y ∧ ρ y = .int kd (.ofNat n) ∧ n ≤ top
theorem bndK_den {env : Env} {tmps : List Value} (he : EnvRel β env tmps) {x : Option Operand} {dflt top : Nat} {K : Nat → R} {outs : List Dl} (h : bndK (x.map opG) env dflt top K = some outs) :
  ∃ n, BndR (⟨tmps.toArray, []⟩ : Act).eval x dflt top n ∧ K n = some outs := by
 cases x with
 | none => exact ⟨dflt, .inl ⟨rfl, rfl⟩, h⟩
 | some y =>
  change opG y env (fun v => vNat v fun n => iff (Nat.ble n top) (K n) none) = some outs at h
  obtain ⟨p, hd, h1⟩ := opG_den he h
  obtain ⟨kd, n, rfl, h2⟩ := vNat_some h1
  obtain ⟨hb, h3⟩ := iff_some h2
  exact ⟨n, .inr ⟨y, kd, rfl, hd.int_inv, Nat.le_of_ble_eq_true hb⟩, h3⟩
theorem run_bound {kd : IntKind} {n top : Nat} (h : n ≤ top) (code : BoundsCode) (w : World) : (Instr.sliceBound (.int kd (.ofNat n)) top code).run P w = .ok n w := by
 have h1 : (0 : Int) ≤ Int.ofNat n ∧ Int.ofNat n ≤ (top : Int) := ⟨Int.natCast_nonneg n, by show (n : Int) ≤ (top : Int); omega⟩
 simp only [Instr.sliceBound, asIntOf, Sem.run_bind, Sem.run_pure, Result.andThen_ok]
 rw [if_pos h1]; rfl
theorem run_bounds {ρ : Operand → Value} {lo hi mx : Option Operand} {len cap l h m : Nat} {isS : Bool} {dm : Nat} (hm : BndR ρ mx dm cap m) (hdm : mx = none → m = cap) (hno : ¬ (mx ≠ none ∧ hi = none)) (hh : BndR ρ hi len m h) (hl : BndR ρ lo 0 h l) (w : World) :
  (Instr.sliceBounds isS len cap (lo.map ρ) (hi.map ρ) (mx.map ρ)).run P w = .ok (l, h, m) w := by
 rcases hm with ⟨rfl, hm⟩ | ⟨ym, km, rfl, hvm, hlm⟩
 ·have hmc := hdm rfl
  rcases hh with ⟨rfl, rfl⟩ | ⟨yh, kh, rfl, hvh, hlh⟩
  ·simp only [Instr.sliceBounds, Option.map_none, Sem.run_bind, Sem.run_pure, Result.andThen_ok, hmc]
   rcases hl with ⟨rfl, rfl⟩ | ⟨y, kd, rfl, hv, hle⟩
   ·simp only [Option.map_none, Sem.run_bind, Sem.run_pure, Result.andThen_ok]
   ·simp only [Option.map_some, hv, Sem.run_bind, run_bound hle, Sem.run_pure, Result.andThen_ok]
  ·subst hmc
   simp only [Instr.sliceBounds, Option.map_none, Option.map_some, hvh, Sem.run_bind, Sem.run_pure, Result.andThen_ok, run_bound hlh]
   rcases hl with ⟨rfl, rfl⟩ | ⟨y, kd, rfl, hv, hle⟩
   ·simp only [Option.map_none, Sem.run_bind, Sem.run_pure, Result.andThen_ok]
   ·simp only [Option.map_some, hv, Sem.run_bind, run_bound hle, Sem.run_pure, Result.andThen_ok]
 ·rcases hh with ⟨rfl, rfl⟩ | ⟨yh, kh, rfl, hvh, hlh⟩
  ·exact (hno ⟨by simp, rfl⟩).elim
  ·simp only [Instr.sliceBounds, Option.map_some, hvh, hvm, Sem.run_bind, Result.andThen_ok, run_bound hlm, run_bound hlh]
   rcases hl with ⟨rfl, rfl⟩ | ⟨y, kd, rfl, hv, hle⟩
   ·simp only [Option.map_none, Sem.run_bind, Sem.run_pure, Result.andThen_ok]
   ·simp only [Option.map_some, hv, Sem.run_bind, run_bound hle, Sem.run_pure, Result.andThen_ok]
theorem BndR.le {ρ : Operand → Value} {x : Option Operand} {top n : Nat} (h : BndR ρ x 0 top n) : n ≤ top := by
 rcases h with ⟨_, rfl⟩ | ⟨_, _, _, _, h⟩
 ·exact Nat.zero_le _
 ·exact h
theorem boundsK_den {env : Env} {tmps : List Value} (he : EnvRel β env tmps) {lo hi mx : Option Operand} {len cap top : Nat} {K : Nat → Nat → Nat → R} {outs : List Dl} (h : boundsK env (lo.map opG) (hi.map opG) (mx.map opG) len cap top K = some outs) :
  ∃ l h m, BndR (⟨tmps.toArray, []⟩ : Act).eval mx cap top m ∧ ¬ (mx ≠ none ∧ hi = none) ∧ BndR (⟨tmps.toArray, []⟩ : Act).eval hi len m h ∧ BndR (⟨tmps.toArray, []⟩ : Act).eval lo 0 h l ∧ K l h m = some outs := by
 obtain ⟨m, hm, h1⟩ := bndK_den he h
 have hno : ¬ (mx ≠ none ∧ hi = none) := by
  rintro ⟨g1, g2⟩
  subst g2
  cases mx with
  | none => exact g1 rfl
  | some y => cases h1
 have h2 : bndK (hi.map opG) env len m (fun h => bndK (lo.map opG) env 0 h fun l => K l h m) = some outs := by
  cases mx with
  | none => cases hi <;> exact h1
  | some y => cases hi with
   | none => exact (hno ⟨by simp, rfl⟩).elim
   | some z => exact h1
 obtain ⟨hh, hhr, h3⟩ := bndK_den he h2
 obtain ⟨l, hl, h4⟩ := bndK_den he h3
 exact ⟨l, hh, m, hm, hno, hhr, hl, h4⟩
theorem cutK_den {k i off l h m b : Nat} {K : V → R} {outs : List Dl} (hb : β[i]? = some b) (hlh : l ≤ h) (hhm : h ≤ m) (hk : cutK k i off l h m K = some outs) :
  ∃ x, Den β x (.slice (if m = l then some ⟨b, off * k, none⟩ else (some (⟨b, off * k, none⟩ : Addr)).map (·.add (l * k))) (h - l) (m - l)) ∧ K x = some outs := by
 unfold cutK at hk
 cases e : Nat.beq m l with
 | true =>
  rw [e] at hk
  have := Nat.eq_of_beq_eq_true e
  subst this
  have : h = m := by omega
  subst this
  refine ⟨_, ?_, hk⟩
  rw [if_pos rfl, Nat.sub_self]
  exact .sl _ _ _ _ _ _ _ hb rfl (Nat.le_refl _)
 | false =>
  rw [e] at hk
  have hne := Nat.ne_of_beq_eq_false e
  refine ⟨_, ?_, hk⟩
  rw [if_neg hne]
  simp only [Option.map_some, addr_add]
  have := Den.sl (β := β) k i (off + l) (h - l) (.known (m - l)) b (m - l) hb rfl (by omega)
  rwa [Nat.add_mul] at this
theorem cutG_den {k i off l h ci len c b : Nat} {K : V → R} {outs : List Dl} (hb : β[i]? = some b) (hci : β[ci]? = some (off + c)) (hlh : l ≤ h) (hhl : h ≤ len) (hlc : len ≤ c) (hk : cutG k i off l h ci len K = some outs) :
  ∃ x, Den β x (.slice (if c = l then some ⟨b, off * k, none⟩ else (some (⟨b, off * k, none⟩ : Addr)).map (·.add (l * k))) (h - l) (c - l)) ∧ K x = some outs := by
 unfold cutG at hk
 cases e : Nat.beq l 0 with
 | true =>
  rw [e] at hk
  have := Nat.eq_of_beq_eq_true e
  subst this
  refine ⟨_, ?_, hk⟩
  simp only [Option.map_some, addr_add, Nat.zero_mul, Nat.add_zero, Nat.sub_zero, ite_self]
  exact .sl _ _ _ _ _ _ _ hb hci (by omega)
 | false =>
  rw [e] at hk
  change iff (Nat.blt l len) _ _ = _ at hk
  cases e2 : Nat.blt l len with
  | true =>
   rw [e2] at hk
   have hlt := blt_iff.1 e2
   refine ⟨_, ?_, hk⟩
   rw [if_neg (by omega)]
   simp only [Option.map_some, addr_add]
   have := Den.sl (β := β) k i (off + l) (h - l) (.ghost ci) b (c - l) hb (show β[ci]? = some (off + l + (c - l)) by rw [hci]; congr 1; omega) (by omega)
   rwa [Nat.add_mul] at this
  | false =>
   rw [e2] at hk
   obtain ⟨e3, h3⟩ := iff_some (b := Nat.beq h l) hk
   have := Nat.eq_of_beq_eq_true e3
   subst this
   exact ⟨_, by rw [Nat.sub_self]; exact .esl .., h3⟩
theorem ok_sliceS {t : TypeId} {x : Operand} {lo hi mx : Option Operand} {e k b : Nat} (ht : tkT P t = some (.sl e k b)) : ValOk P gl CO (.slice t x lo hi mx) (sSliceS k (opG x) (lo.map opG) (hi.map opG) (mx.map opG)) := fun o ho call hc env st K outs hok h => fun B w β tmps hiv he => by
 obtain ⟨i', d, hi1, hu, htk⟩ := tkT_spec ht
 obtain ⟨rfl, ie, hie, hsz, _⟩ := tkOf_sl htk
 have hse : szOf P e = some k := by simp [szOf, hie, hsz]
 obtain ⟨p, hd, h1⟩ := opG_den he h
 have run : ∀ (a : Option Addr) (len cap l h m : Nat), (⟨tmps.toArray, []⟩ : Act).eval x = .slice a len cap →
   (Instr.sliceBounds true len cap (lo.map (⟨tmps.toArray, []⟩ : Act).eval) (hi.map (⟨tmps.toArray, []⟩ : Act).eval) (mx.map (⟨tmps.toArray, []⟩ : Act).eval)).run P w = .ok (l, h, m) w →
   (execOp (⟨tmps.toArray, []⟩ : Act).eval o).run P w = .ok (.value (.slice (if m = l then a else a.map (·.add (l * k))) (h - l) (m - l))) w := by
  intro a len cap l h m hv hb
  simp only [execOp, ho, Instr.sliceAt, Instr.slice, Sem.run_bind, run_underlying hu, Result.andThen_ok, hv, hb, run_size hse, Sem.run_pure]
 cases p <;> first | (cases h1; done) | skip
 case nilsl =>
  generalize hv : (⟨tmps.toArray, []⟩ : Act).eval x = v at hd
  cases hd
  obtain ⟨l, hh, m, g1, g2, g3, g4, h2⟩ := boundsK_den he h1
  have hm0 : m = 0 := by rcases g1 with ⟨_, rfl⟩ | ⟨_, _, _, _, hle⟩ <;> omega
  subst hm0
  have hh0 : hh = 0 := by rcases g3 with ⟨_, rfl⟩ | ⟨_, _, _, _, hle⟩ <;> omega
  subst hh0
  have hl0 : l = 0 := by rcases g4 with ⟨_, rfl⟩ | ⟨_, _, _, _, hle⟩ <;> omega
  subst hl0
  exact ⟨_, _, run _ _ _ _ _ _ hv (run_bounds g1 (fun _ => rfl) g2 g3 g4 w), .nilsl, .of h2⟩
 case sl k' i off len cap =>
  obtain ⟨b, c, hb, hcap, hlc, hv⟩ := hd.sl_inv
  obtain ⟨hk, h2⟩ := iff_some h1
  have hkk := Nat.eq_of_beq_eq_true hk
  rw [← hkk] at hv
  cases cap with
  | known n =>
   obtain rfl : c = n := hcap
   obtain ⟨l, hh, m, g1, g2, g3, g4, h3⟩ := boundsK_den he h2
   have hmc : m ≤ c := by rcases g1 with ⟨_, rfl⟩ | ⟨_, _, _, _, hle⟩ <;> omega
   have hhm : hh ≤ m := by
    rcases g3 with ⟨hn, rfl⟩ | ⟨_, _, _, _, hle⟩
    ·have : mx = none := by
      cases mx with
      | none => rfl
      | some y => exact (g2 ⟨by simp, hn⟩).elim
     rcases g1 with ⟨_, rfl⟩ | ⟨_, _, hs, _⟩
     ·exact hlc
     ·rw [this] at hs; cases hs
    ·exact hle
   obtain ⟨y, hy, h4⟩ := cutK_den hb g4.le hhm h3
   exact ⟨y, _, run _ _ _ _ _ _ hv (run_bounds g1 (fun hn => by rcases g1 with ⟨_, e⟩ | ⟨_, _, hs, _⟩; exact e; rw [hn] at hs; cases hs) g2 g3 g4 w), hy, .of h4⟩
  | ghost ci =>
   cases mx with
   | none =>
    obtain ⟨hh, g3, h3⟩ := bndK_den he h2
    obtain ⟨l, g4, h4⟩ := bndK_den he h3
    have hhl : hh ≤ len := by rcases g3 with ⟨_, rfl⟩ | ⟨_, _, _, _, hle⟩ <;> omega
    obtain ⟨y, hy, h5⟩ := cutG_den hb hcap g4.le hhl hlc h4
    have g3' : BndR (⟨tmps.toArray, []⟩ : Act).eval hi len c hh := by
     rcases g3 with hn | ⟨z, kd, e1, e2, e3⟩
     ·exact .inl hn
     ·exact .inr ⟨z, kd, e1, e2, by omega⟩
    exact ⟨y, _, run _ _ _ _ _ _ hv (run_bounds (dm := c) (.inl ⟨rfl, rfl⟩) (fun _ => rfl) (by simp) g3' g4 w), hy, .of h5⟩
   | some mx =>
    obtain ⟨l, hh, m, g1, g2, g3, g4, h3⟩ := boundsK_den (mx := some mx) he h2
    have hml : m ≤ len := by rcases g1 with ⟨hn, _⟩ | ⟨_, _, _, _, hle⟩; cases hn; exact hle
    have hhm : hh ≤ m := by
     rcases g3 with ⟨hn, _⟩ | ⟨_, _, _, _, hle⟩
     ·exact (g2 ⟨by simp, hn⟩).elim
     ·exact hle
    obtain ⟨y, hy, h4⟩ := cutK_den hb g4.le hhm h3
    have g1' : BndR (⟨tmps.toArray, []⟩ : Act).eval (some mx) 0 c m := by
     rcases g1 with ⟨hn, _⟩ | ⟨z, kd, e1, e2, e3⟩
     ·cases hn
     ·exact .inr ⟨z, kd, e1, e2, by omega⟩
    exact ⟨y, _, run _ _ _ _ _ _ hv (run_bounds g1' (fun hn => by cases hn) g2 g3 g4 w), hy, .of h4⟩
theorem ok_sliceA {t : TypeId} {x : Operand} {lo hi : Option Operand} {n e k : Nat} (ht : tkT P t = some (.arr n e k)) : ValOk P gl CO (.slice t x lo hi none) (sSliceA n k (opG x) (lo.map opG) (hi.map opG)) := fun o ho call hc env st K outs hok h => fun B w β tmps hiv he => by
 obtain ⟨i', d, hi1, hu, htk⟩ := tkT_spec ht
 obtain ⟨rfl, hse⟩ := tkOf_arr htk
 obtain ⟨p, hd, h1⟩ := opG_den he h
 cases p <;> first | (cases h1; done) | skip
 case ptr i off =>
  obtain ⟨b, hb, hv⟩ := hd.ptr_inv
  obtain ⟨hk, h2⟩ := iff_some h1
  simp only [Bool.and_eq_true] at hk
  have hmod := Nat.eq_of_beq_eq_true hk.1
  have hoff : off / k * k = off := by
   have := Nat.div_add_mod off k
   rw [hmod, Nat.add_zero, Nat.mul_comm] at this
   exact this
  obtain ⟨hh, g3, h3⟩ := bndK_den he h2
  obtain ⟨l, g4, h4⟩ := bndK_den he h3
  simp only [fNat_eq] at h4
  have hhn : hh ≤ n := by rcases g3 with ⟨_, rfl⟩ | ⟨_, _, _, _, hle⟩ <;> omega
  obtain ⟨y, hy, h5⟩ := cutK_den hb g4.le hhn h4
  rw [hoff] at hy
  refine ⟨y, _, ?_, hy, .of h5⟩
  have hbr := run_bounds (P := P) (isS := false) (dm := n) (.inl ⟨rfl, rfl⟩ : BndR (⟨tmps.toArray, []⟩ : Act).eval none n n n) (fun _ => rfl) (by simp) g3 g4 w
  simp only [Option.map_none] at hbr
  simp only [execOp, ho, Instr.sliceAt, Sem.run_bind, run_underlying hu, Result.andThen_ok, hv, Instr.sureAddr, Sem.run_pure, Option.map_none, hbr, run_size hse]
  split <;> rfl
theorem mnmxK_den {isMax : Bool} : ∀ (l : List V) (us : List Value) (a : V) (v : Value) {K : V → R} {outs : List Dl}, Den β a v → DenL β l us → mnmxK isMax a l K = some outs →
  ∃ x u, K x = some outs ∧ Den β x u ∧ ∀ w : World, (us.foldlM (if isMax then Builtin.max2 else Builtin.min2) v).run P w = .ok u w
 | [], us, a, v, K, outs, ha, hl, h => by
  have : us = [] := by
   have := hl.1
   cases us with
   | nil => rfl
   | cons _ _ => simp at this
  subst this
  exact ⟨a, v, h, ha, fun w => rfl⟩
 | b :: l, us, a, v, K, outs, ha, hl, h => by
  obtain ⟨u, us, rfl⟩ : ∃ u us', us = u :: us' := by
   have := hl.1
   cases us with
   | nil => simp at this
   | cons x y => exact ⟨x, y, rfl⟩
  change vInt a (fun k x => vInt b fun k' y => iff (eqKd k k') _ none) = some outs at h
  obtain ⟨k, x, rfl, h1⟩ := vInt_some h
  obtain ⟨k', y, rfl, h2⟩ := vInt_some h1
  obtain ⟨hk, h3⟩ := iff_some h2
  have hb := hl.2 0 _ _ rfl rfl
  have hl' : DenL β l us := ⟨by simpa using hl.1, fun j c v hc hv => hl.2 (j + 1) c v (by simpa using hc) (by simpa using hv)⟩
  obtain ⟨z, u', h4, h5, h6⟩ := mnmxK_den (isMax := isMax) l us _ (.int k (@Bool.casesOn (fun _ => Int) (@Bool.casesOn (fun _ => Bool) isMax (ltI y x) (ltI x y)) x y)) (.int ..) hl' h3
  refine ⟨z, u', h4, h5, fun w => ?_⟩
  rw [List.foldlM_cons, Sem.run_bind, ha.int_inv, hb.int_inv]
  cases isMax with
  | true =>
   simp only [if_true, Builtin.max2, Sem.run_pure, Result.andThen_ok]
   have := h6 w
   simp only [if_true, ltI_eq] at this
   by_cases hlt : x < y
   ·simp only [hlt, decide_true] at this; rw [if_pos (show y > x from hlt)]; exact this
   ·simp only [hlt, decide_false] at this; rw [if_neg (show ¬ y > x from hlt)]; exact this
  | false =>
   simp only [Bool.false_eq_true, if_false, Builtin.min2, Sem.run_pure, Result.andThen_ok]
   have := h6 w
   simp only [Bool.false_eq_true, if_false, ltI_eq] at this
   by_cases hlt : y < x
   ·simp only [hlt, decide_true] at this; rw [if_pos hlt]; exact this
   ·simp only [hlt, decide_false] at this; rw [if_neg hlt]; exact this
theorem ok_mnmx {isMax : Bool} {args : Array Operand} {ts : Array TypeId} : ValOk P gl CO (.call ⟨.builtin (if isMax then .max else .min), args, ts⟩) (sMnMx isMax (args.toList.map opG)) := fun o ho call hc env st K outs hok h => fun B w β tmps hi he => by
 obtain ⟨ps, hl, h1⟩ := opsK_den he h
 cases ps with
 | nil => cases h1
 | cons a l =>
  cases hal : args.toList with
  | nil => rw [hal] at hl; have := hl.1; simp at this
  | cons y ys =>
   rw [hal] at hl
   have ha := hl.2 0 _ _ rfl rfl
   have hl' : DenL β l (ys.map (⟨tmps.toArray, []⟩ : Act).eval) := ⟨by simpa using hl.1, fun j c v hc hv => hl.2 (j + 1) c v (by simpa using hc) (by simpa using hv)⟩
   obtain ⟨x, u, h2, hx, hr⟩ := mnmxK_den (isMax := isMax) l _ a _ (K := fun v => fV v fun v => K v st) ha hl' h1
   rw [fV_eq] at h2
   refine ⟨x, u, run_builtin ho _ ?_, hx, .of h2⟩
   have e : (args.map (⟨tmps.toArray, []⟩ : Act).eval).toList = (⟨tmps.toArray, []⟩ : Act).eval y :: ys.map (⟨tmps.toArray, []⟩ : Act).eval := by simp [hal]
   cases isMax with
   | true =>
    simp only [if_true, Go.builtin, Builtin.max_, e, Sem.run_bind]
    rw [show (List.foldlM Builtin.max2 ((⟨tmps.toArray, []⟩ : Act).eval y) (ys.map (⟨tmps.toArray, []⟩ : Act).eval)).run P w = .ok u w from hr w]
    rfl
   | false =>
    simp only [Bool.false_eq_true, if_false, Go.builtin, Builtin.min_, e, Sem.run_bind]
    rw [show (List.foldlM Builtin.min2 ((⟨tmps.toArray, []⟩ : Act).eval y) (ys.map (⟨tmps.toArray, []⟩ : Act).eval)).run P w = .ok u w from hr w]
    rfl
end
end
end Go.Ev
namespace Go.Ev
open Go
noncomputable section
theorem cells_one {v : Value} (h : v.oneCell' = true) : v.cells = #[v] := by cases v <;> first | rfl | cases h
section
variable {P : Program} {gl : List (Nat × List V)} {CO : Call → Prop} {β : List Nat} {w : World}
theorem heap_alloc (w : World) (ob : Obj) : (w.alloc ob).heap[w.heap.size]? = some ob := by
 show (w.heap.push ob)[w.heap.size]? = _
 simp
theorem heap_alloc_lt (w : World) (ob : Obj) {b : Nat} (hb : b < w.heap.size) : (w.alloc ob).heap[b]? = w.heap[b]? := by
 show (w.heap.push ob)[b]? = _
 rw [Array.getElem?_push, if_neg (by omega)]
theorem Inv.alloc {B : Base} {st : List O} (hi : Inv gl B w β st) (ob : Obj) {x : O} (hx : ObjRel (β ++ [w.heap.size]) (w.alloc ob) w.heap.size x) : Inv gl B (w.alloc ob) (β ++ [w.heap.size]) (st ++ [x]) :=
 hi.push (Nat.le_refl _) (by show w.heap.size ≤ (w.heap.push ob).size; simp) (fun _ h => heap_alloc_lt w ob h) rfl rfl rfl hx
theorem partsK_den {p : V} {v : Value} (hd : Den β p v) {k : List V → R} {outs : List Dl} (h : partsK p k = some outs) : ∃ cs us, k cs = some outs ∧ v.cells = (us : List Value).toArray ∧ DenL β cs us ∧ (∀ u ∈ us, u.oneCell' = true) := by
 have one : v.oneCell' = true → k [p] = some outs → ∃ cs us, k cs = some outs ∧ v.cells = (us : List Value).toArray ∧ DenL β cs us ∧ (∀ u ∈ us, u.oneCell' = true) := fun h1 hk =>
  ⟨[p], [v], hk, cells_one h1, DenL.nil.cons hd, fun u hu => by simp at hu; subst hu; exact h1⟩
 cases hd <;> first | (cases h; done) | skip
 case agg cs vs h1 h2 h3 => exact ⟨cs, vs, h, rfl, ⟨h1, h3⟩, h2⟩
 case cell h1 => exact one h1 h
 all_goals exact one rfl h
theorem run_newVar' (t : TypeId) (v : Value) : (newVar t v).run P w = .ok ⟨w.heap.size, 0, none⟩ (w.alloc (.cells v.cells t)) := by
 simp [newVar, newRow]
theorem denL_zero {z : List V} {t : TypeId} (hz : zeroT P t = some z) (h1 : allOne z = true) : ∃ i zv, P.info? t = some i ∧ i.zero = some zv ∧ (∀ β, DenL β z zv.cells.toList) ∧ ∀ u ∈ zv.cells.toList, u.oneCell' = true := by
 obtain ⟨i, zv, h2, h3, rfl⟩ := zeroT_spec hz
 refine ⟨i, zv, h2, h3, fun β => denL_cv β _, fun u hu => ?_⟩
 simp only [allOne, List.all_eq_true] at h1
 exact one_cv (h1 _ (List.mem_map_of_mem hu))
theorem ok_alloc {t : TypeId} {z : List V} (hz : zeroT P t = some z) (h1 : allOne z = true) : SemOk P gl CO (.alloc t) (sAlloc z) := fun o ho call hc env st K outs hok h B w β tmps Q hi he => by
 obtain ⟨i, zv, hi1, hzv, hd, h1c⟩ := denL_zero hz h1
 change mapK fV1 z (fun z => st.push (.box z) fun s => K (.ptr st.n 0) s) = some outs at h
 rw [mapV1_eq, push_eq] at h
 have hrun : (execOp (⟨tmps.toArray, []⟩ : Act).eval o).run P w = .ok (.value (.pointer (some ⟨w.heap.size, 0, none⟩))) (w.alloc (.cells zv.cells t)) := by
  simp only [execOp, ho, Instr.alloc, Sem.run_bind, run_zero hi1 hzv, run_newVar', Result.andThen_ok, Sem.run_pure]
 unfold Oper.wp
 rw [hrun]
 have hlen := hi.len
 refine ⟨_, _, st.add (.box z), β ++ [w.heap.size], rfl, .of h, add_good hok _, .ptr _ _ _ ?_, ?_, Pre.snoc _ _⟩
 ·rw [← lst_len hok, ← hlen]; simp
 ·rw [add_lst]
  refine hi.alloc _ ⟨zv.cells.toList, t, (0, 0), ?_, hd _, h1c, by simp⟩
  rw [heap_alloc]
theorem ok_box {t : TypeId} {x : Operand} : SemOk P gl CO (.box t x) (sBox (opG x)) := fun o ho call hc env st K outs hok h B w β tmps Q hi he => by
 obtain ⟨p, hd, h2⟩ := opG_den he h
 obtain ⟨cs, us, h3, hv, hl, h1⟩ := partsK_den hd h2
 rw [push_eq] at h3
 have hrun : (execOp (⟨tmps.toArray, []⟩ : Act).eval o).run P w = .ok (.value (.pointer (some ⟨w.heap.size, 0, none⟩))) (w.alloc (.cells us.toArray t)) := by
  simp only [execOp, ho, Instr.box, Sem.run_bind, run_newVar', Result.andThen_ok, Sem.run_pure, hv]
 unfold Oper.wp
 rw [hrun]
 have hlen := hi.len
 refine ⟨_, _, st.add (.box cs), β ++ [w.heap.size], rfl, .of h3, add_good hok _, .ptr _ _ _ ?_, ?_, Pre.snoc _ _⟩
 ·rw [← lst_len hok, ← hlen]; simp
 ·rw [add_lst]
  exact hi.alloc _ ⟨us, t, (0, 0), heap_alloc .., hl.mono (Pre.snoc _ _), h1, by simp⟩
theorem run_storeCells (b : Nat) (T : TypeId) (fr : Nat × Nat) : ∀ (us : List Value) (i base : Nat) (vs : List Value) (w : World), w.heap[b]? = some (.cells vs.toArray T fr) → base + i + us.length ≤ vs.length →
  (∀ u ∈ us, u.oneCell' = true) → (∀ j, j < vs.length → ¬ (fr.1 ≤ j ∧ j < fr.2)) →
  ∃ w', (storeCells ⟨b, base, none⟩ us i).run P w = .ok () w' ∧ w'.heap.size = w.heap.size ∧ w'.os = w.os ∧ w'.tape = w.tape ∧ w'.output = w.output ∧ (∀ k, k ≠ b → w'.heap[k]? = w.heap[k]?) ∧
   w'.heap[b]? = some (.cells (vs.take (base + i) ++ us ++ vs.drop (base + i + us.length)).toArray T fr)
 | [], i, base, vs, w, hw, hl, h1, hf => ⟨w, by simp [storeCells], rfl, rfl, rfl, rfl, fun _ _ => rfl, by simpa using hw⟩
 | u :: us, i, base, vs, w, hw, hl, h1, hf => by
  simp only [List.length_cons] at hl
  have hc : w.cell? ⟨b, base + i, none⟩ = some (vs[base + i]'(by omega)) := by
   have : w.cell? ⟨b, base + i, none⟩ = vs[base + i]? := by simp [World.cell?, hw]
   rw [this]; exact List.getElem?_eq_getElem (by omega)
  have hfz : w.frozen? ⟨b, base + i, none⟩ = false := by
   simp only [World.frozen?, hw]
   have := hf (base + i) (by omega)
   simp only [Bool.and_eq_false_iff, decide_eq_false_iff_not]
   omega
  have hbs : b < w.heap.size := heap_lt hw
  have hw' : (w.setCell ⟨b, base + i, none⟩ u).heap[b]? = some (.cells (vs.set (base + i) u).toArray T fr) := by
   simp [World.setCell, Array.getElem?_modify, hw]
  obtain ⟨w2, r1, r2, r3, r4, r5, r6, r7⟩ := run_storeCells b T fr us (i + 1) base (vs.set (base + i) u) (w.setCell ⟨b, base + i, none⟩ u) hw' (by simp; omega) (fun x hx => h1 x (by simp [hx])) (by simpa using hf)
  refine ⟨w2, ?_, r2.trans (by simp [World.setCell]), r3, r4, r5, fun k hk => (r6 k hk).trans ?_, ?_⟩
  ·simp only [storeCells, Sem.run_bind, addr_add, run_store _ _ _ _ _ (h1 u (by simp)), hc, hfz, Bool.false_eq_true, if_false, Result.andThen_ok, r1]
  ·simp only [World.setCell, Array.getElem?_modify]; rw [if_neg (fun e => hk e.symm)]
  ·rw [r7]
   congr 3
   rw [List.drop_set_of_lt (by omega), ← Nat.add_assoc, List.take_succ_eq_append_getElem (by simp; omega), List.take_set_of_le (Nat.le_refl _)]
   simp [Nat.add_assoc, Nat.add_comm 1]
theorem take_over {vs us : List Value} {off n : Nat} (h1 : off + us.length ≤ n) (h2 : n ≤ vs.length) : (vs.take off ++ us ++ vs.drop (off + us.length)).take n = (vs.take n).take off ++ us ++ (vs.take n).drop (off + us.length) := by
 apply List.ext_getElem?
 intro j
 have e1 : (vs.take off).length = off := by simp; omega
 have e2 : ((vs.take n).take off).length = off := by simp; omega
 by_cases hn : j < n
 ·rw [List.getElem?_take, if_pos hn, List.append_assoc, List.append_assoc]
  by_cases ho : j < off
  ·rw [List.getElem?_append_left (by omega), List.getElem?_append_left (by omega), List.getElem?_take, List.getElem?_take, List.getElem?_take, if_pos ho, if_pos ho, if_pos hn]
  ·rw [List.getElem?_append_right (l₁ := vs.take off) (by omega), List.getElem?_append_right (l₁ := (vs.take n).take off) (by omega), e1, e2]
   by_cases hu : j - off < us.length
   ·rw [List.getElem?_append_left hu, List.getElem?_append_left hu]
   ·rw [List.getElem?_append_right (by omega), List.getElem?_append_right (by omega), List.getElem?_drop, List.getElem?_drop, List.getElem?_take, if_pos (by omega)]
 ·rw [List.getElem?_take, if_neg hn]
  symm
  rw [List.getElem?_eq_none_iff]
  simp
  omega
inductive Wr (off : Nat) (xs : List V) : O → O → Prop
 | box (cs) : off + xs.length ≤ cs.length → Wr off xs (.box cs) (.box (cs.take off ++ xs ++ cs.drop (off + xs.length)))
 | vec (k ci cs) : off + xs.length ≤ cs.length → Wr off xs (.vec k ci cs) (.vec k ci (cs.take off ++ xs ++ cs.drop (off + xs.length)))
theorem storeK_some {st : St} (hok : st.Ok) {i off : Nat} {xs : List V} {K : St → R} {outs : List Dl} (h : storeK st i off xs K = some outs) :
  ∃ ob ob', (lst st)[i]? = some ob ∧ Wr off xs ob ob' ∧ K (st.put i ob') = some outs ∧ i < st.n := by
 obtain ⟨ob, h1, hob⟩ := obj_some hok h
 cases ob <;> first | (cases h1; done) | skip
 case box cs =>
  rcases hob with hob | hob
  ·cases hob
  have hlt : i < st.n := by rw [← lst_len hok]; exact (List.getElem?_eq_some_iff.1 hob).1
  change overK cs off xs _ = _ at h1
  rw [overK_eq] at h1
  by_cases hle : off + xs.length ≤ cs.length
  ·rw [if_pos hle] at h1
   change st.set i (.box _) K = _ at h1
   rw [set_eq hlt] at h1
   exact ⟨_, _, hob, .box cs hle, h1, hlt⟩
  ·rw [if_neg hle] at h1; cases h1
 case vec k ci cs =>
  rcases hob with hob | hob
  ·cases hob
  have hlt : i < st.n := by rw [← lst_len hok]; exact (List.getElem?_eq_some_iff.1 hob).1
  change overK cs off xs _ = _ at h1
  rw [overK_eq] at h1
  by_cases hle : off + xs.length ≤ cs.length
  ·rw [if_pos hle] at h1
   change st.set i (.vec k ci _) K = _ at h1
   rw [set_eq hlt] at h1
   exact ⟨_, _, hob, .vec k ci cs hle, h1, hlt⟩
  ·rw [if_neg hle] at h1; cases h1
theorem write_obj {B : Base} {st : List O} (hi : Inv gl B w β st) {i b : Nat} (hb : β[i]? = some b) {ob ob' : O} (ho : st[i]? = some ob) {off : Nat} {xs : List V} (hw : Wr off xs ob ob') {us : List Value} (hu : DenL β xs us) (h1 : ∀ u ∈ us, u.oneCell' = true) :
  ∃ w', (storeCells ⟨b, off, none⟩ us).run P w = .ok () w' ∧ Inv gl B w' β (st.set i ob') := by
 cases hw with
 | box cs hle =>
  obtain ⟨vs, T, fr, g1, g2, g3, g4⟩ := hi.obj i b _ hb ho
  obtain ⟨w', r1, r2, r3, r4, r5, r6, r7⟩ := run_storeCells (P := P) b T fr us 0 off vs w g1 (by rw [← hu.1, ← g2.1]; exact hle) h1 g4
  refine ⟨w', r1, hi.write hb ho rfl r2 r3 r4 r5 r6 ⟨_, T, fr, r7, g2.over hu off, fun u hu' => ?_, fun j hj => ?_⟩⟩
  ·rcases List.mem_append.1 hu' with hu' | hu'
   ·rcases List.mem_append.1 hu' with hu' | hu'
    ·exact g3 u (List.mem_of_mem_take hu')
    ·exact h1 u hu'
   ·exact g3 u (List.mem_of_mem_drop hu')
  ·have := hu.1; have := g2.1
   exact g4 j (by simp at hj; omega)
 | vec k ci cs hle =>
  obtain ⟨c, vs, T, fr, g0, g1, g2, g3, g4, g5, g6⟩ := hi.obj i b _ hb ho
  have hul := hu.1
  obtain ⟨w', r1, r2, r3, r4, r5, r6, r7⟩ := run_storeCells (P := P) b T fr us 0 off vs w g1 (by omega) h1 g6
  have hlen : (cs.take off ++ xs ++ cs.drop (off + xs.length)).length = cs.length := by simp; omega
  have e : (vs.take (off + 0) ++ us ++ vs.drop (off + 0 + us.length)).take (cs.take off ++ xs ++ cs.drop (off + xs.length)).length = (vs.take cs.length).take off ++ us ++ (vs.take cs.length).drop (off + us.length) := by
   rw [hlen, Nat.add_zero]
   exact take_over (by omega) g3
  refine ⟨w', r1, hi.write hb ho rfl r2 r3 r4 r5 r6 ⟨c, _, T, fr, g0, r7, ?_, ?_, ?_, fun u hu' => ?_, fun j hj => ?_⟩⟩
  ·simp; omega
  ·simp; omega
  ·rw [e]
   exact g4.over hu off
  ·rw [e] at hu'
   rcases List.mem_append.1 hu' with hu' | hu'
   ·rcases List.mem_append.1 hu' with hu' | hu'
    ·exact g5 u (List.mem_of_mem_take hu')
    ·exact h1 u hu'
   ·exact g5 u (List.mem_of_mem_drop hu')
  ·exact g6 j (by simp at hj; omega)
theorem ok_store {t : TypeId} {a x : Operand} {ti : TI} (ht : tyOf P t = some ti) : SemOk P gl CO (.store t a x) (sStore ti.size (opG a) (opG x)) := fun o ho call hc env st K outs hok h B w β tmps Q hi he => by
 obtain ⟨i', d, hi1, hu, htk, hsz, _⟩ := tyOf_spec ht
 have hs : szOf P t = some ti.size := by simp [szOf, hi1, hsz]
 obtain ⟨p, hd, h2⟩ := opG_den he h
 cases p <;> first | (cases h2; done) | skip
 case ptr i off =>
  obtain ⟨b, hb, hv⟩ := hd.ptr_inv
  obtain ⟨q, hq, h3⟩ := opG_den he h2
  obtain ⟨xs, us, h4, hv2, hl, h1⟩ := partsK_den hq h3
  obtain ⟨hn, h5⟩ := iff_some h4
  have hn' := Nat.eq_of_beq_eq_true hn
  obtain ⟨ob, ob', hob, hwr, h6, hlt⟩ := storeK_some hok h5
  obtain ⟨w', r1, hi'⟩ := write_obj (P := P) hi hb hob hwr hl h1
  have hrun : (execOp (⟨tmps.toArray, []⟩ : Act).eval o).run P w = .ok .skip w' := by
   simp only [execOp, ho, Instr.storeAt, Sem.run_bind, hv, Instr.sureAddr, Sem.run_pure, Result.andThen_ok, storeVar, run_size hs]
   have hul := hl.1
   rw [if_neg (by rw [hv2]; simp; omega), hv2]
   simp only [r1, Result.andThen_ok]
  unfold Oper.wp
  rw [hrun]
  refine ⟨_, .any, st.put i ob', β, rfl, .of h6, put_good hok hlt _, .any _, ?_, Pre.refl _⟩
  rw [put_lst hok hlt]
  exact hi'
end
end
end Go.Ev
