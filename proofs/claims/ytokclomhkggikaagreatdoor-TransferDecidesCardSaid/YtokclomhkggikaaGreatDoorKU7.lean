/-
 The law TransferDecides, upon sane and the generator of open ports. (Draft: not built.)
 The code behind the first parts of a sequence, by its place: a walk told in several theorems.
 From the reckoner's answers to contracts over pure values: a function without arguments that answers true.
-/
import Derived.Test.YtokclomhkggikaaGreatDoorKU5
import Derived.Test.YtokclomhkggikaaGreatDoorKUG5
import Derived.Test.YtokclomhkggikaaGreatDoorJPwApX
import Derived.Test.YtokclomhkggikaaGreatDoorJPwShort
import Derived.Test.YtokclomhkggikaaGreatDoorVEvMap
import Derived.Test.YtokclomhkggikaaGreatDoorKU1
set_option maxHeartbeats 20000000
set_option maxRecDepth 100000
namespace Go.Proofs.YtokclomhkggikaaGreatDoor
open Go Go.Pw
variable {Gl : Glob}
attribute [local irreducible] PW PWL OpP PCalls PWO bokB hinB bhas PWT bothT tComplete rComplete tabOk initH decT clsP pcont rcont lhas portsE decP decC
instance iTDecide (a : List TDev) (b : List TLink) (c : List TEdge) (d : List TPfx) (n e : Int) (A B : List TRule) (C : List TMove) (D : List THide) (F : List TSteer) (e' : Int) (A' B' : List TRule) (C' : List TMove) (D' : List THide) (F' : List TSteer) (s u v x y : Int) : ConF Tryz.prog Gl 10 [.agg [.sl (a.map eDev), .sl (b.map eLink), .sl (c.map eEdge), .sl (d.map ePfx), .int .i64 n], .agg [.int .i64 e, .sl (A.map eRule), .sl (B.map eRule), .sl (C.map eMove), .sl (D.map eHide), .sl (F.map eSteer)], .agg [.int .i64 e', .sl (A'.map eRule), .sl (B'.map eRule), .sl (C'.map eMove), .sl (D'.map eHide), .sl (F'.map eSteer)], .agg [.int .u32 s, .int .u32 u, .int .u8 v, .int .u16 x, .int .u16 y]] ((GBoxT Gl ∧ HdrIn ⟨s, u, v, x, y⟩) ∧ Small c ∧ A.length < 1000000 ∧ B'.length < 1000000 ∧ F.length < 1000000) (.tup [.bool (decP ⟨a, b, c, d, n⟩ ⟨e, A, B, C, D, F⟩ ⟨e', A', B', C', D', F'⟩ ⟨s, u, v, x, y⟩), .str (decC ⟨a, b, c, d, n⟩ ⟨e, A, B, C, D, F⟩ ⟨e', A', B', C', D', F'⟩ ⟨s, u, v, x, y⟩)]) := ⟨e10, fun h => c_tDecide h.1.1 ⟨a, b, c, d, n⟩ ⟨e, A, B, C, D, F⟩ ⟨e', A', B', C', D', F'⟩ ⟨s, u, v, x, y⟩ h.1.2 h.2.1 h.2.2.1 h.2.2.2.1 h.2.2.2.2⟩
instance iRDecide (a : List TDev) (b : List TLink) (c : List TEdge) (d : List TPfx) (n e : Int) (A B : List TRule) (C : List TMove) (D : List THide) (F : List TSteer) (e' : Int) (A' B' : List TRule) (C' : List TMove) (D' : List THide) (F' : List TSteer) (s u v x y : Int) : ConF Tryz.prog Gl 11 [.agg [.sl (a.map eDev), .sl (b.map eLink), .sl (c.map eEdge), .sl (d.map ePfx), .int .i64 n], .agg [.int .i64 e, .sl (A.map eRule), .sl (B.map eRule), .sl (C.map eMove), .sl (D.map eHide), .sl (F.map eSteer)], .agg [.int .i64 e', .sl (A'.map eRule), .sl (B'.map eRule), .sl (C'.map eMove), .sl (D'.map eHide), .sl (F'.map eSteer)], .agg [.int .u32 s, .int .u32 u, .int .u8 v, .int .u16 x, .int .u16 y]] ((TIn ⟨a, b, c, d, n⟩ ∧ HdrIn ⟨s, u, v, x, y⟩) ∧ Small c ∧ A.length < 1000000 ∧ B'.length < 1000000 ∧ F.length < 1000000) (.tup [.bool (decP ⟨a, b, c, d, n⟩ ⟨e, A, B, C, D, F⟩ ⟨e', A', B', C', D', F'⟩ ⟨s, u, v, x, y⟩), .str (decC ⟨a, b, c, d, n⟩ ⟨e, A, B, C, D, F⟩ ⟨e', A', B', C', D', F'⟩ ⟨s, u, v, x, y⟩)]) := ⟨e11, fun h => c_rDecideP ⟨a, b, c, d, n⟩ ⟨e, A, B, C, D, F⟩ ⟨e', A', B', C', D', F'⟩ ⟨s, u, v, x, y⟩ h.1.1 h.1.2 h.2.1 h.2.2.1 h.2.2.2.1 h.2.2.2.2⟩
theorem TGen.tin {m : Nat} {t : Topo} (h : TGen m t) : TIn t := by
 refine ⟨fun e he => ?_, fun p hp => ?_⟩
 ·obtain ⟨k, hk⟩ := List.mem_iff_getElem?.1 he
  rw [(h.edges k e hk).pfx, List.getD]
  cases hs : subnets[k]? with
  | none => exact ⟨Int.le_refl 0, (by decide : (0 : Int) < 4294967296)⟩
  | some p => exact subnets_in (List.mem_of_getElem? hs)
 ·have h1 : PfxIn pool1 := ⟨by decide, by decide⟩
  have h2 : PfxIn pool2 := ⟨by decide, by decide⟩
  rcases h.pools with q | q | q | q <;> rw [q] at hp <;> simp at hp
  ·rw [hp]; exact h1
  ·rw [hp]; exact h2
  ·rcases hp with hp | hp <;> rw [hp]
   ·exact h1
   ·exact h2
class OpenC (Gl : Glob) : Prop where
 gen : ∀ (t : Topo), EdIn t.edges → t.devs.length ≤ 3 → ∀ (l : List Int), Tp l → ∀ (i : Nat), i ≤ l.length → Gen Gl 23 [eTopo t] l i fun r => ∃ x, CfgsIn x ∧ r = .sl (x.map eCfg)
instance iLawPorts [hO : OpenC Gl] (a : List TDev) (b : List TLink) (c : List TEdge) (d : List TPfx) (n : Int) : GenC Gl 8 [.agg [.sl (a.map eDev), .sl (b.map eLink), .sl (c.map eEdge), .sl (d.map ePfx), .int .i64 n]] (EdIn c ∧ a.length ≤ 3) (TPort × TPort) (PairIn ⟨a, b, c, d, n⟩) ePair := ⟨e8, fun h l hl i hi => g_lawPorts l hl i hi ⟨a, b, c, d, n⟩ h.1 (hO.gen _ h.1 h.2)⟩
instance iLawHeader (a : List TDev) (b : List TLink) (c : List TEdge) (d : List TPfx) (n e : Int) (A B : List TRule) (C : List TMove) (D : List THide) (F : List TSteer) (e' : Int) (A' B' : List TRule) (C' : List TMove) (D' : List THide) (F' : List TSteer) : GenC Gl 9 [.agg [.sl (a.map eDev), .sl (b.map eLink), .sl (c.map eEdge), .sl (d.map ePfx), .int .i64 n], .agg [.int .i64 e, .sl (A.map eRule), .sl (B.map eRule), .sl (C.map eMove), .sl (D.map eHide), .sl (F.map eSteer)], .agg [.int .i64 e', .sl (A'.map eRule), .sl (B'.map eRule), .sl (C'.map eMove), .sl (D'.map eHide), .sl (F'.map eSteer)]] (EdIn c ∧ 0 ≤ e') THdr HdrIn eHdr := ⟨e9, fun h l hl i hi => g_lawHeader l hl i hi ⟨a, b, c, d, n⟩ h.1 ⟨e, A, B, C, D, F⟩ ⟨e', A', B', C', D', F'⟩ h.2⟩
theorem c_decides [OpenC Gl] (hG : GBoxT Gl) (hS : PFun Tryz.prog Gl 12 [] fun r => r = .bool true) (l : List Int) (hl : Tp l) (p q : TPort) (h : THdr) (hh : HdrIn h) : PFun Tryz.prog Gl 3 [.sl (l.map eInt), ePort p, ePort q, eHdr h] fun r => r = .bool true := by
 (refine PFun.of hT Tryz.func3 rfl fun B hD => ?_; refine pw_norm rfl ?_)
 (repeat' (first | refine zS ?_ | refine zq5 ?_ | refine zq6 ?_))
 (refine pl_op rfl (zCl [] e6 (c10 l) (fun r s hq => ?_)); obtain ⟨rfl, rfl⟩ := hq; refine ⟨rfl, rfl, ?_⟩; (refine zNp ?_))
 (repeat' (first | refine zS ?_ | refine zq5 ?_ | refine zq6 ?_))
 (refine pl_op rfl (zCl [3] e7 (c12 l hl 0 (Nat.zero_le _) 3 (by decide) (by decide)) (fun r s hq => ?_)); obtain ⟨j1, T, c, ⟨m, hmn, hg⟩, hj1, rfl, rfl⟩ := hq; refine ⟨rfl, rfl, ?_⟩; (refine zNp ?_))
 refine pl_frzV (fun i => Nat.ble 4 i) 26 (y := eTopo T) rfl (by (refine .inr (.inr (.inr (.inr (.inl ⟨_, _, rfl, rfl, ?_⟩)))); (repeat (first | exact True.intro | refine ⟨.inr (.inl rfl), ?_⟩ | refine ⟨.inr (.inr (.inl ⟨rfl, rfl⟩)), ?_⟩ | refine ⟨.inr (.inr (.inr (.inl ⟨_, _, _, _, _, _, rfl, rfl, rfl, rfl, rfl⟩))), ?_⟩ | refine ⟨.inr (.inr (.inr (.inl ⟨_, _, _, _, _, _, rfl, rfl, rfl, (by simp only [List.length_map, List.length_set, List.length_append, List.length_cons, List.length_nil]), rfl⟩))), ?_⟩)))) ?_
 (refine zNp ?_)
 (repeat' (first | refine zS ?_ | refine zq5 ?_ | refine zq6 ?_))
 have hSm : Small T.edges := by
  have := hg.el
  unfold Small
  omega
 have hTn : TIn ⟨T.devs, T.links, T.edges, T.pools, T.tol⟩ := hg.tin
 have hh' : HdrIn ⟨h.src, h.dst, h.proto, h.sp, h.dp⟩ := hh
 have hEd : EdIn T.edges := ⟨by have := hg.el; omega, fun e he => hTn.edges e he⟩
 have hDev : T.devs.length ≤ 3 := by
  rw [hg.dl]
  omega
 refine pw_for hD (fun a : Nat × Nat => [(11, .int .i64 a.1)]) (fun a => [.box (ePort p).cells, .box (ePort q).cells, .box (eHdr h).cells, tape l a.2, .dead, .dead, .dead, .dead, .dead, .dead, .box (eTopo T).cells]) (fun a => a.1 ≤ 4 ∧ a.2 ≤ l.length) (fun a => 4 - a.1) (0, j1) ⟨Nat.zero_le _, hj1⟩ 11 rfl (fun _ => rfl) zLes (fun _ => rfl) (fun _ => rfl) zLe ?_
 rintro ⟨i, j⟩ ⟨hi, hj⟩
 dsimp only at hi hj ⊢
 refine zNq ?_
 (repeat' (first | refine zS ?_ | refine zq5 ?_ | refine zq6 ?_ | (refine zT ?_ ?_ <;> intro h <;> first | exact zX | refine zNq ?_)))
 ·(refine pl_op rfl (op_genJ 3 rfl rfl rfl rfl (by exact inferInstance) (by repeat' (first | exact trivial | assumption | apply And.intro | omega)) hl (by assumption) (by rfl) (fun _ => rfl) (fun x j hx hj => ?_)); (refine zNp ?_))
  rename PairIn _ _ => hP
  obtain ⟨hP1, hP2, hP3, hP4, hP5⟩ := hP
  have hw1 := hP1.ing.1
  have hw2 := hP2.egr.1
  have hw3 := hP1.steers.1
  (repeat' (first | refine zS ?_ | refine zq5 ?_ | refine zq6 ?_ | (refine zT ?_ ?_ <;> intro h <;> first | exact zX | refine zNq ?_)))
  ·(refine pl_op rfl (op_genJ 3 rfl rfl rfl rfl (by exact inferInstance) (by repeat' (first | exact trivial | assumption | apply And.intro | omega)) hl (by assumption) (by rfl) (fun _ => rfl) (fun x j hx hj => ?_)); (refine zNp ?_))
   have hx' : HdrIn ⟨x.src, x.dst, x.proto, x.sp, x.dp⟩ := hx
   (repeat' (first | refine zS ?_ | refine zq5 ?_ | refine zq6 ?_ | (refine zT ?_ ?_ <;> intro h <;> first | exact zX | refine zNq ?_)))
   (refine pl_op rfl (op_of (v_neB hT rfl (by kernel_rfl) rfl rfl rfl) ?_); (refine zNp ?_))
   (repeat' (first | refine zS ?_ | refine zq5 ?_ | refine zq6 ?_ | (refine zT ?_ ?_ <;> intro h <;> first | exact zX | refine zNq ?_)))
   ·exact absurd h (by simp)
   ·exact ⟨(i + 1, j), ⟨by dsimp only; omega, hj⟩, by dsimp only; omega, zLe, zLes⟩
  ·(refine pl_op rfl (op_of (v_neB hT rfl (by kernel_rfl) rfl rfl rfl) ?_); (refine zNp ?_))
   (repeat' (first | refine zS ?_ | refine zq5 ?_ | refine zq6 ?_ | (refine zT ?_ ?_ <;> intro h <;> first | exact zX | refine zNq ?_)))
   ·exact absurd h (by simp)
   ·exact ⟨(i + 1, j), ⟨by dsimp only; omega, hj⟩, by dsimp only; omega, zLe, zLes⟩
 ·(refine pl_op rfl (op_fun (hS) rfl rfl e12 zLe rfl (fun r hr => ?_)); subst hr; refine ⟨rfl, ?_⟩; (refine zNp ?_))
  (repeat' (first | refine zS ?_ | refine zq5 ?_ | refine zq6 ?_ | (refine zT ?_ ?_ <;> intro h <;> first | exact zX | refine zNq ?_)))
  exact ret1 _ rfl rfl rfl
 ·(refine pl_op rfl (op_of (v_eqB hT rfl (by kernel_rfl) rfl rfl rfl) ?_); (refine zNp ?_))
  (repeat' (first | refine zS ?_ | refine zq5 ?_ | refine zq6 ?_ | (refine zT ?_ ?_ <;> intro h <;> first | exact zX | refine zNq ?_)))
  refine pl_split 110 rfl (fun h8 => ?_) (fun h8 => ?_)
  ·refine zNp ?_
   (refine pl_on rfl rfl (op_fun (hS) rfl rfl e12 zLe rfl (fun r hr => ?_)); subst hr; refine ⟨rfl, ?_⟩; (refine zNp ?_))
   (repeat' (first | refine zS ?_ | refine zq5 ?_ | refine zq6 ?_ | (refine zT ?_ ?_ <;> intro h <;> first | exact zX | refine zNq ?_)))
   exact ret1 _ rfl rfl rfl
  ·exact absurd h8 (by simp)
end Go.Proofs.YtokclomhkggikaaGreatDoor
namespace Go.Pw
open Go
def codeOf (f : Func) : Code := f.body.getD .skip
def forceC {α : Type} (c : Code) (k : Code → α) : α :=
 match c with
 | .seq x y => k (.seq x y)
 | .block i x => k (.block i x)
 | .loop x => k (.loop x)
 | .cond o x y => k (.cond o x y)
 | c => k c
theorem forceC_eq {α : Type} (c : Code) (k : Code → α) : forceC c k = k c := by cases c <;> rfl
section
variable {P : Program} {Gl : Glob} {B : Base} {env : List PV} {st : List PObj} {Q : Post}
theorem pw_code {c c' : Code} (h : (forceC c fun x => (x, ())) = (c', ())) (hr : PW P Gl B c' env st Q) : PW P Gl B c env st Q := by
 rw [forceC_eq] at h
 cases h
 exact hr
end
end Go.Pw
namespace Go.Proofs.YtokclomhkggikaaGreatDoor
open Go Go.Pw
variable {Gl : Glob}
theorem lit_den {x : PV} {v : Go.Ev.V} (hx : ∃ k n, x = .int k n ∧ v = .int k n) : Go.Ev.Den [] v (litV x) ∧ (litV x).oneCell' = true := by
 obtain ⟨k, n, rfl, rfl⟩ := hx
 exact ⟨.int .., rfl⟩
theorem of_ev {P : Program} {gl : List (Nat × List Go.Ev.V)} {f : FuncId} (hgl : ∀ g cs, gl.lookup g = some cs → cs ≠ [] ∧ ∃ xs : List PV, GRow Gl g xs ∧ xs.length = cs.length ∧ ∀ (j : Nat) x v, xs[j]? = some x → cs[j]? = some v → ∃ k n, x = .int k n ∧ v = .int k n)
  (h : Go.Ev.FunOk P gl f [] [] [⟨[.bool true], [], []⟩]) : PFun P Gl f [] fun r => r = .bool true := fun A w β vals hi ha => by
 obtain rfl : vals = [] := List.eq_nil_of_length_eq_zero (by rw [← ha.1]; rfl)
 have hβ : β = [] := List.eq_nil_of_length_eq_zero hi.len
 subst hβ
 have hglob : Go.Ev.GlobOk gl ⟨w, [], fun _ => False⟩ := fun g cs hg => by
  obtain ⟨hne, xs, hr, hl, hc⟩ := hgl g cs hg
  have hlt : g < w.heap.size := (hi.glob g hr.lt).2.2.1
  refine ⟨fun ho => ?_, ?_⟩
  ·rcases ho with ho | ho
   ·exact ho
   ·exact absurd hlt (Nat.not_lt.2 ho)
  ·have cell : ∀ (j : Nat) x, xs[j]? = some x → w.cell? ⟨g, j, none⟩ = some (litV x) := fun j x hx => hr.cell w hi.globW j x hx
   have hpos : 0 < xs.length := by
    rw [hl]; exact List.length_pos_iff.2 hne
   have h0 := cell 0 _ (List.getElem?_eq_getElem hpos)
   cases hh : w.heap[g]? with
   | none => simp [World.cell?, hh] at h0
   | some ob =>
    cases ob <;> first | (simp [World.cell?, hh] at h0; done) | skip
    rename_i cur T fr
    have hcell : ∀ (j : Nat) x, xs[j]? = some x → cur.toList[j]? = some (litV x) := fun j x hx => by
     have := cell j x hx
     simpa [World.cell?, hh] using this
    have hlen : cs.length ≤ cur.toList.length := by
     have := hcell (xs.length - 1) _ (List.getElem?_eq_getElem (by omega))
     have := (List.getElem?_eq_some_iff.1 this).1
     omega
    have key : ∀ (j : Nat) c v, cs[j]? = some c → (cur.toList.take cs.length)[j]? = some v → Go.Ev.Den [] c v ∧ v.oneCell' = true := fun j c v h1 h2 => by
     have hj : j < cs.length := (List.getElem?_eq_some_iff.1 h1).1
     rw [List.getElem?_take, if_pos hj] at h2
     have hx := List.getElem?_eq_getElem (l := xs) (i := j) (by omega)
     rw [hcell j _ hx] at h2
     cases h2
     exact lit_den (hc j _ _ hx h1)
    refine ⟨cur.toList, T, fr, by simp, hlen, ⟨by simp at hlen ⊢; omega, fun j c v h1 h2 => (key j c v h1 h2).1⟩, fun u hu => ?_⟩
    obtain ⟨j, hj⟩ := List.mem_iff_getElem?.1 hu
    have hjl : j < cs.length := by
     have := (List.getElem?_eq_some_iff.1 hj).1
     simp at this; omega
    exact (key j _ u (List.getElem?_eq_getElem hjl) hj).2
 have hinv : Go.Ev.Inv gl ⟨w, [], fun _ => False⟩ w [] [] := ⟨rfl, fun i j b h => by simp at h, fun i b o h => by simp at h, fun i b h => by simp at h, Nat.le_refl _, fun _ _ => rfl, rfl, rfl, rfl, hglob, .refl _⟩
 refine (h.2 ⟨w, [], fun _ => False⟩ w [] [] hinv (.refl _) .nil).mono ?_
 rintro e w' ⟨v, d, γ, x, rfl, hd, hγ, _, hi', hx, hv⟩
 rw [List.mem_singleton.1 hd] at hγ hi' hx
 obtain rfl : γ = [] := List.eq_nil_of_length_eq_zero hγ
 cases hx
 cases hv
 have keep : ∀ b, b < w.heap.size → w'.heap[b]? = w.heap[b]? := fun b hb => hi'.keep b fun ho => by
  rcases ho with ho | ho
  ·exact ho
  ·exact absurd hb (Nat.not_lt.2 ho)
 refine ⟨.bool true, _, [], A, [], rfl, ⟨rfl, rfl⟩, .bool _ _, ?_⟩
 refine ⟨rfl, fun i j b h => by simp at h, fun i b o h => by simp at h, fun i b h => by simp at h, fun i b h => by simp at h, fun b hb => Nat.lt_of_lt_of_le (hi.lt b hb) hi'.size, fun b hb => .inl hb, fun b hb => hb, hi'.size, hi'.os, hi'.tape, hi'.output, fun b hb _ => keep b hb, hi.glob, fun i b _ h => h, hi.apart⟩
end Go.Proofs.YtokclomhkggikaaGreatDoor
