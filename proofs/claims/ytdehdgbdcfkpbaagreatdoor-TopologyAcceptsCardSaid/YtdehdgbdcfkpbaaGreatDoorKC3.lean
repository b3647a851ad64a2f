/-
  Contracts of functions, walked over pure values.
-/
import Derived.Test.YtdehdgbdcfkpbaaGreatDoorKB12
import Derived.Test.YtdehdgbdcfkpbaaGreatDoorKEnts
namespace Go.Proofs.YtdehdgbdcfkpbaaGreatDoor
open Go Go.Pw
variable {Gl : Glob}
attribute [local irreducible] PW PWL OpP PCalls PWO
set_option maxHeartbeats 20000000
set_option maxRecDepth 100000

def pES : List (List UInt8 × PV) := [(kDev, .bfn 61 [.ptr 1 0]), (kLink, .bfn 62 [.ptr 1 0]), (kEdge, .bfn 63 [.ptr 1 0]), (kPool, .bfn 64 [.ptr 1 0]), (kTol, .bfn 65 [.ptr 1 0])]
def box0 : PObj := .box [.nilsl, .nilsl, .nilsl, .nilsl, .int .i64 0]
def pS (t : Topo) (told : Bool) (c : Caps) : List PObj := [box0, .box [.msl 5 3 0 (t.devs.map eDev).length c.1, .msl 3 4 0 (t.links.map eLink).length c.2.1, .msl 6 5 0 (t.edges.map eEdge).length c.2.2.1, .msl 2 6 0 (t.pools.map ePfx).length c.2.2.2, .int .i64 t.tol, .bool told], .map pES,
  .arr 5 (t.devs.map eDev) c.1, .arr 3 (t.links.map eLink) c.2.1, .arr 6 (t.edges.map eEdge) c.2.2.1, .arr 2 (t.pools.map ePfx) c.2.2.2]
theorem c26 (hG : GM Gl) (s : Str) (hok : LOk (lines s).1) : PFun Tryz.prog Gl 26 [.str s] fun r => r = .tup [eTopo (tParse s).1, .int .i64 (tParse s).2.1, .int .i64 (tParse s).2.2] := by
  refine PFun.of hT Tryz.func26 rfl fun B hD => ?_
  refine pw_norm rfl ?_
  (refine zGo ?_)
  (refine pl_op rfl (op_fun (c60 hG s) rfl rfl e60 zLe rfl (fun r hr => ?_)); subst hr; refine ⟨rfl, ?_⟩; (refine zNp ?_))
  unfold tParse
  generalize lines s = L at hok ⊢
  obtain ⟨ls, ln, le⟩ := L
  dsimp only at hok ⊢
  (refine zGo ?_)
  refine pw_cond rfl (fun h => ?_) (fun h => ?_)
  · rw [if_pos h]
    (refine zGo ?_)
    exact ret0 _ (.tup [eTopo topo0, .int .i64 ln, .int .i64 le]) rfl rfl (by (refine .inr (.inr (.inr (.inr (.inr ⟨_, _, rfl, rfl, ?_⟩)))); (repeat (first | trivial | refine ⟨.inr (.inl rfl), ?_⟩ | refine ⟨.inr (.inr (.inl ⟨rfl, rfl⟩)), ?_⟩ | refine ⟨.inr (.inr (.inr (.inl ⟨_, _, _, _, _, _, rfl, rfl, rfl, rfl, rfl⟩))), ?_⟩ | refine ⟨.inr (.inr (.inr (.inr (.inl ⟨_, _, rfl, rfl, ?_⟩)))), ?_⟩)))) rfl
  rw [if_neg (by rw [h]; exact Bool.false_ne_true)]
  (refine zGo ?_)
  (refine pl_op rfl (op_mkmap rfl ?_); (refine zNp ?_))
  (refine zGo ?_)
  (refine pl_op rfl (op_insert hT rfl rfl rfl rfl rfl rfl rfl rfl ?_); (refine zNp ?_))
  (refine zGo ?_)
  (refine pl_op rfl (op_insert hT rfl rfl rfl rfl rfl rfl rfl rfl ?_); (refine zNp ?_))
  (refine zGo ?_)
  (refine pl_op rfl (op_insert hT rfl rfl rfl rfl rfl rfl rfl rfl ?_); (refine zNp ?_))
  (refine zGo ?_)
  (refine pl_op rfl (op_insert hT rfl rfl rfl rfl rfl rfl rfl rfl ?_); (refine zNp ?_))
  (refine zGo ?_)
  (refine pl_op rfl (op_insert hT rfl rfl rfl rfl rfl rfl rfl rfl ?_); (refine zNp ?_))
  (refine zGo ?_)
  refine pw_ghost 5 ?_
  refine pw_ghost 3 ?_
  refine pw_ghost 6 ?_
  refine pw_ghost 2 ?_
  refine pw_norm rfl ?_
  refine pw_for hD (fun a : Nat × Topo × Bool × Caps => [(35, .int .i64 a.1)]) (fun a => pS a.2.1 a.2.2.1 a.2.2.2)
    (fun a => pRun (ls.drop a.1) a.2.1 a.2.2.1 = pRun ls topo0 false ∧ a.1 ≤ ls.length ∧ TLim a.2.1) (fun a => ls.length - a.1) (0, topo0, false, (0, 0, 0, 0)) ⟨rfl, Nat.zero_le _, ⟨by decide, by decide, by decide, by decide⟩⟩ 7 rfl (fun _ => rfl)
    ?_ (fun _ => rfl) (fun _ => rfl) (by (exact zLe)) ?_
  · exact ⟨.inl rfl, .inr (.inr ⟨_, _, rfl, rfl, by (exact zLe)⟩), .inl rfl, .inl rfl, .inl rfl, .inl rfl, .inl rfl, trivial⟩
  rintro ⟨i, t, told, c⟩ ⟨hw, hi, ht⟩
  dsimp only
  have hi : i ≤ ls.length := hi
  have ht : TLim t := ht
  have hw : pRun (ls.drop i) t told = pRun ls topo0 false := hw
  have hfew := hok.few
  (refine zGo ?_)
  refine pw_cond rfl (fun h1 => ?_) (fun h1 => ?_)
  · simp only [decide_eq_true_eq, List.length_map] at h1
    have hlt : i < ls.length := by omega
    have hdr : ls.drop i = ls[i] :: ls.drop (i + 1) := List.drop_eq_getElem_cons hlt
    have hsome := hok.some ls[i] (List.getElem_mem hlt)
    have hwk := hok.ok ls[i] (List.getElem_mem hlt)
    rw [hdr, pRun] at hw
    (refine zGo ?_)
    (refine pl_op rfl (op_of (v_index (p := eLine ls[i]) hT rfl rfl rfl rfl (by omega) (by simp [hlt]) rfl) ?_); (refine zNp ?_))
    generalize ls[i] = li at hw hsome hwk ⊢
    obtain ⟨num, w⟩ := li
    dsimp only at hw hsome hwk
    (refine zGo ?_)
    (refine pl_op rfl (op_of (v_index (p := .str (w.getD 0 [])) hT rfl rfl rfl rfl (by omega) (str_at w 0 hsome) rfl) ?_); (refine zNp ?_))
    (refine zGo ?_)
    by_cases k1 : w.getD 0 [] = kDev
    · have hx : pLine t told w = pDev t told w := by simp only [pLine]; rw [if_pos k1]
      rw [hx] at hw
      rw [k1]
      (refine pl_op rfl (op_lookup (j := 0) hT rfl rfl rfl rfl rfl rfl rfl rfl ?_); (refine zNp ?_))
      (refine zGo ?_)
      (refine pl_op rfl (op_callA [1, 3, 4, 5, 6] rfl rfl e61 (by decide) rfl rfl rfl zLe zLes (c61 t ht.ok told c w hwk) (fun r s hq => ?_)); obtain ⟨c', rfl, rfl⟩ := hq; refine ⟨rfl, rfl, ?_⟩; (refine zNp ?_))
      generalize pDev t told w = x at hw ⊢ hx
      have hxl : TLim x.2.1 := by have := pLine_lim ht told w; rw [hx] at this; exact this
      (refine zGo ?_)
      (refine pw_mv 3 9 hD rfl rfl rfl rfl rfl ?_; refine pw_norm rfl ?_)
      (refine pw_mv 4 10 hD rfl rfl rfl rfl rfl ?_; refine pw_norm rfl ?_)
      (refine pw_mv 5 11 hD rfl rfl rfl rfl rfl ?_; refine pw_norm rfl ?_)
      (refine pw_mv 6 12 hD rfl rfl rfl rfl rfl ?_; refine pw_norm rfl ?_)
      (refine pw_trim 8 hD rfl rfl ?_; refine pw_norm rfl ?_)
      refine pw_cond rfl (fun h2 => ?_) (fun h2 => ?_)
      · simp only [h2] at hw
        rw [← hw]
        (refine zGo ?_)
        refine pw_draw [(0, true), (1, true), (2, true), (3, true), (4, false), (5, true), (6, true)] hmix (by decide +kernel) ?_
        (refine zDgo ?_)
        (refine zGo ?_)
        refine ret0 _ (.tup [eTopo topo0, .int .i64 num, .int .i64 x.1]) rfl ?_ (by (refine .inr (.inr (.inr (.inr (.inr ⟨_, _, rfl, rfl, ?_⟩)))); (repeat (first | trivial | refine ⟨.inr (.inl rfl), ?_⟩ | refine ⟨.inr (.inr (.inl ⟨rfl, rfl⟩)), ?_⟩ | refine ⟨.inr (.inr (.inr (.inl ⟨_, _, _, _, _, _, rfl, rfl, rfl, rfl, rfl⟩))), ?_⟩ | refine ⟨.inr (.inr (.inr (.inr (.inl ⟨_, _, rfl, rfl, ?_⟩)))), ?_⟩)))) rfl
        rw [pEnd, if_pos h2]
      · simp only [h2] at hw
        (refine zGo ?_)
        exact ⟨(i + 1, x.2.1, x.2.2, c'), ⟨hw, by show i + 1 ≤ _; omega, hxl⟩, by show _ - (i + 1) < _ - i; omega, by (exact zLe), by (exact zLes)⟩
    by_cases k2 : w.getD 0 [] = kLink
    · have hx : pLine t told w = pLink t told w := by simp only [pLine]; rw [if_neg k1, if_pos k2]
      rw [hx] at hw
      rw [k2]
      (refine pl_op rfl (op_lookup (j := 1) hT rfl rfl rfl rfl rfl rfl rfl rfl ?_); (refine zNp ?_))
      (refine zGo ?_)
      (refine pl_op rfl (op_callA [1, 3, 4, 5, 6] rfl rfl e62 (by decide) rfl rfl rfl zLe zLes (c62 t ht.ok told c w hwk) (fun r s hq => ?_)); obtain ⟨c', rfl, rfl⟩ := hq; refine ⟨rfl, rfl, ?_⟩; (refine zNp ?_))
      generalize pLink t told w = x at hw ⊢ hx
      have hxl : TLim x.2.1 := by have := pLine_lim ht told w; rw [hx] at this; exact this
      (refine zGo ?_)
      (refine pw_mv 3 9 hD rfl rfl rfl rfl rfl ?_; refine pw_norm rfl ?_)
      (refine pw_mv 4 10 hD rfl rfl rfl rfl rfl ?_; refine pw_norm rfl ?_)
      (refine pw_mv 5 11 hD rfl rfl rfl rfl rfl ?_; refine pw_norm rfl ?_)
      (refine pw_mv 6 12 hD rfl rfl rfl rfl rfl ?_; refine pw_norm rfl ?_)
      (refine pw_trim 8 hD rfl rfl ?_; refine pw_norm rfl ?_)
      refine pw_cond rfl (fun h2 => ?_) (fun h2 => ?_)
      · simp only [h2] at hw
        rw [← hw]
        (refine zGo ?_)
        refine pw_draw [(0, true), (1, true), (2, true), (3, true), (4, false), (5, true), (6, true)] hmix (by decide +kernel) ?_
        (refine zDgo ?_)
        (refine zGo ?_)
        refine ret0 _ (.tup [eTopo topo0, .int .i64 num, .int .i64 x.1]) rfl ?_ (by (refine .inr (.inr (.inr (.inr (.inr ⟨_, _, rfl, rfl, ?_⟩)))); (repeat (first | trivial | refine ⟨.inr (.inl rfl), ?_⟩ | refine ⟨.inr (.inr (.inl ⟨rfl, rfl⟩)), ?_⟩ | refine ⟨.inr (.inr (.inr (.inl ⟨_, _, _, _, _, _, rfl, rfl, rfl, rfl, rfl⟩))), ?_⟩ | refine ⟨.inr (.inr (.inr (.inr (.inl ⟨_, _, rfl, rfl, ?_⟩)))), ?_⟩)))) rfl
        rw [pEnd, if_pos h2]
      · simp only [h2] at hw
        (refine zGo ?_)
        exact ⟨(i + 1, x.2.1, x.2.2, c'), ⟨hw, by show i + 1 ≤ _; omega, hxl⟩, by show _ - (i + 1) < _ - i; omega, by (exact zLe), by (exact zLes)⟩
    by_cases k3 : w.getD 0 [] = kEdge
    · have hx : pLine t told w = pEdge t told w := by simp only [pLine]; rw [if_neg k1, if_neg k2, if_pos k3]
      rw [hx] at hw
      rw [k3]
      (refine pl_op rfl (op_lookup (j := 2) hT rfl rfl rfl rfl rfl rfl rfl rfl ?_); (refine zNp ?_))
      (refine zGo ?_)
      (refine pl_op rfl (op_callA [1, 3, 4, 5, 6] rfl rfl e63 (by decide) rfl rfl rfl zLe zLes (c63 hG t ht.ok told c w hwk) (fun r s hq => ?_)); obtain ⟨c', rfl, rfl⟩ := hq; refine ⟨rfl, rfl, ?_⟩; (refine zNp ?_))
      generalize pEdge t told w = x at hw ⊢ hx
      have hxl : TLim x.2.1 := by have := pLine_lim ht told w; rw [hx] at this; exact this
      (refine zGo ?_)
      (refine pw_mv 3 9 hD rfl rfl rfl rfl rfl ?_; refine pw_norm rfl ?_)
      (refine pw_mv 4 10 hD rfl rfl rfl rfl rfl ?_; refine pw_norm rfl ?_)
      (refine pw_mv 5 11 hD rfl rfl rfl rfl rfl ?_; refine pw_norm rfl ?_)
      (refine pw_mv 6 12 hD rfl rfl rfl rfl rfl ?_; refine pw_norm rfl ?_)
      (refine pw_trim 8 hD rfl rfl ?_; refine pw_norm rfl ?_)
      refine pw_cond rfl (fun h2 => ?_) (fun h2 => ?_)
      · simp only [h2] at hw
        rw [← hw]
        (refine zGo ?_)
        refine pw_draw [(0, true), (1, true), (2, true), (3, true), (4, false), (5, true), (6, true)] hmix (by decide +kernel) ?_
        (refine zDgo ?_)
        (refine zGo ?_)
        refine ret0 _ (.tup [eTopo topo0, .int .i64 num, .int .i64 x.1]) rfl ?_ (by (refine .inr (.inr (.inr (.inr (.inr ⟨_, _, rfl, rfl, ?_⟩)))); (repeat (first | trivial | refine ⟨.inr (.inl rfl), ?_⟩ | refine ⟨.inr (.inr (.inl ⟨rfl, rfl⟩)), ?_⟩ | refine ⟨.inr (.inr (.inr (.inl ⟨_, _, _, _, _, _, rfl, rfl, rfl, rfl, rfl⟩))), ?_⟩ | refine ⟨.inr (.inr (.inr (.inr (.inl ⟨_, _, rfl, rfl, ?_⟩)))), ?_⟩)))) rfl
        rw [pEnd, if_pos h2]
      · simp only [h2] at hw
        (refine zGo ?_)
        exact ⟨(i + 1, x.2.1, x.2.2, c'), ⟨hw, by show i + 1 ≤ _; omega, hxl⟩, by show _ - (i + 1) < _ - i; omega, by (exact zLe), by (exact zLes)⟩
    by_cases k4 : w.getD 0 [] = kPool
    · have hx : pLine t told w = pPool t told w := by simp only [pLine]; rw [if_neg k1, if_neg k2, if_neg k3, if_pos k4]
      rw [hx] at hw
      rw [k4]
      (refine pl_op rfl (op_lookup (j := 3) hT rfl rfl rfl rfl rfl rfl rfl rfl ?_); (refine zNp ?_))
      (refine zGo ?_)
      (refine pl_op rfl (op_callA [1, 3, 4, 5, 6] rfl rfl e64 (by decide) rfl rfl rfl zLe zLes (c64 hG t ht.ok told c w hwk) (fun r s hq => ?_)); obtain ⟨c', rfl, rfl⟩ := hq; refine ⟨rfl, rfl, ?_⟩; (refine zNp ?_))
      generalize pPool t told w = x at hw ⊢ hx
      have hxl : TLim x.2.1 := by have := pLine_lim ht told w; rw [hx] at this; exact this
      (refine zGo ?_)
      (refine pw_mv 3 9 hD rfl rfl rfl rfl rfl ?_; refine pw_norm rfl ?_)
      (refine pw_mv 4 10 hD rfl rfl rfl rfl rfl ?_; refine pw_norm rfl ?_)
      (refine pw_mv 5 11 hD rfl rfl rfl rfl rfl ?_; refine pw_norm rfl ?_)
      (refine pw_mv 6 12 hD rfl rfl rfl rfl rfl ?_; refine pw_norm rfl ?_)
      (refine pw_trim 8 hD rfl rfl ?_; refine pw_norm rfl ?_)
      refine pw_cond rfl (fun h2 => ?_) (fun h2 => ?_)
      · simp only [h2] at hw
        rw [← hw]
        (refine zGo ?_)
        refine pw_draw [(0, true), (1, true), (2, true), (3, true), (4, false), (5, true), (6, true)] hmix (by decide +kernel) ?_
        (refine zDgo ?_)
        (refine zGo ?_)
        refine ret0 _ (.tup [eTopo topo0, .int .i64 num, .int .i64 x.1]) rfl ?_ (by (refine .inr (.inr (.inr (.inr (.inr ⟨_, _, rfl, rfl, ?_⟩)))); (repeat (first | trivial | refine ⟨.inr (.inl rfl), ?_⟩ | refine ⟨.inr (.inr (.inl ⟨rfl, rfl⟩)), ?_⟩ | refine ⟨.inr (.inr (.inr (.inl ⟨_, _, _, _, _, _, rfl, rfl, rfl, rfl, rfl⟩))), ?_⟩ | refine ⟨.inr (.inr (.inr (.inr (.inl ⟨_, _, rfl, rfl, ?_⟩)))), ?_⟩)))) rfl
        rw [pEnd, if_pos h2]
      · simp only [h2] at hw
        (refine zGo ?_)
        exact ⟨(i + 1, x.2.1, x.2.2, c'), ⟨hw, by show i + 1 ≤ _; omega, hxl⟩, by show _ - (i + 1) < _ - i; omega, by (exact zLe), by (exact zLes)⟩
    by_cases k5 : w.getD 0 [] = kTol
    · have hx : pLine t told w = pTol t told w := by simp only [pLine]; rw [if_neg k1, if_neg k2, if_neg k3, if_neg k4, if_pos k5]
      rw [hx] at hw
      rw [k5]
      (refine pl_op rfl (op_lookup (j := 4) hT rfl rfl rfl rfl rfl rfl rfl rfl ?_); (refine zNp ?_))
      (refine zGo ?_)
      (refine pl_op rfl (op_callA [1, 3, 4, 5, 6] rfl rfl e65 (by decide) rfl rfl rfl zLe zLes (c65 t told c w hwk) (fun r s hq => ?_)); obtain ⟨c', rfl, rfl⟩ := hq; refine ⟨rfl, rfl, ?_⟩; (refine zNp ?_))
      generalize pTol t told w = x at hw ⊢ hx
      have hxl : TLim x.2.1 := by have := pLine_lim ht told w; rw [hx] at this; exact this
      (refine zGo ?_)
      (refine pw_mv 3 9 hD rfl rfl rfl rfl rfl ?_; refine pw_norm rfl ?_)
      (refine pw_mv 4 10 hD rfl rfl rfl rfl rfl ?_; refine pw_norm rfl ?_)
      (refine pw_mv 5 11 hD rfl rfl rfl rfl rfl ?_; refine pw_norm rfl ?_)
      (refine pw_mv 6 12 hD rfl rfl rfl rfl rfl ?_; refine pw_norm rfl ?_)
      (refine pw_trim 8 hD rfl rfl ?_; refine pw_norm rfl ?_)
      refine pw_cond rfl (fun h2 => ?_) (fun h2 => ?_)
      · simp only [h2] at hw
        rw [← hw]
        (refine zGo ?_)
        refine pw_draw [(0, true), (1, true), (2, true), (3, true), (4, false), (5, true), (6, true)] hmix (by decide +kernel) ?_
        (refine zDgo ?_)
        (refine zGo ?_)
        refine ret0 _ (.tup [eTopo topo0, .int .i64 num, .int .i64 x.1]) rfl ?_ (by (refine .inr (.inr (.inr (.inr (.inr ⟨_, _, rfl, rfl, ?_⟩)))); (repeat (first | trivial | refine ⟨.inr (.inl rfl), ?_⟩ | refine ⟨.inr (.inr (.inl ⟨rfl, rfl⟩)), ?_⟩ | refine ⟨.inr (.inr (.inr (.inl ⟨_, _, _, _, _, _, rfl, rfl, rfl, rfl, rfl⟩))), ?_⟩ | refine ⟨.inr (.inr (.inr (.inr (.inl ⟨_, _, rfl, rfl, ?_⟩)))), ?_⟩)))) rfl
        rw [pEnd, if_pos h2]
      · simp only [h2] at hw
        (refine zGo ?_)
        exact ⟨(i + 1, x.2.1, x.2.2, c'), ⟨hw, by show i + 1 ≤ _; omega, hxl⟩, by show _ - (i + 1) < _ - i; omega, by (exact zLe), by (exact zLes)⟩
    have hx : pLine t told w = (4, t, told) := by simp only [pLine]; rw [if_neg k1, if_neg k2, if_neg k3, if_neg k4, if_neg k5]
    rw [hx] at hw
    have q1 : (kDev == w.getD 0 []) = false := by rw [beq_eq_false_iff_ne]; exact fun e => k1 e.symm
    have q2 : (kLink == w.getD 0 []) = false := by rw [beq_eq_false_iff_ne]; exact fun e => k2 e.symm
    have q3 : (kEdge == w.getD 0 []) = false := by rw [beq_eq_false_iff_ne]; exact fun e => k3 e.symm
    have q4 : (kPool == w.getD 0 []) = false := by rw [beq_eq_false_iff_ne]; exact fun e => k4 e.symm
    have q5 : (kTol == w.getD 0 []) = false := by rw [beq_eq_false_iff_ne]; exact fun e => k5 e.symm
    have hw' : ((4 : Int), num, topo0) = pRun ls topo0 false := hw
    have hno : (!(kDev == w.getD 0 []) && (!(kLink == w.getD 0 []) && (!(kEdge == w.getD 0 []) && (!(kPool == w.getD 0 []) && (!(kTol == w.getD 0 []) && true))))) = true := by rw [q1, q2, q3, q4, q5]; rfl
    (refine pl_op rfl (op_lookup0 hT rfl rfl rfl rfl rfl rfl rfl (hno) ?_); (refine zNp ?_))
    rw [← hw']
    (refine zGo ?_)
    refine pw_draw [(0, true), (1, true), (2, true), (3, true), (4, false), (5, true), (6, true)] hmix (by decide +kernel) ?_
    (refine zDgo ?_)
    (refine zGo ?_)
    exact ret0 _ (.tup [eTopo topo0, .int .i64 num, .int .i64 4]) rfl rfl (by (refine .inr (.inr (.inr (.inr (.inr ⟨_, _, rfl, rfl, ?_⟩)))); (repeat (first | trivial | refine ⟨.inr (.inl rfl), ?_⟩ | refine ⟨.inr (.inr (.inl ⟨rfl, rfl⟩)), ?_⟩ | refine ⟨.inr (.inr (.inr (.inl ⟨_, _, _, _, _, _, rfl, rfl, rfl, rfl, rfl⟩))), ?_⟩ | refine ⟨.inr (.inr (.inr (.inr (.inl ⟨_, _, rfl, rfl, ?_⟩)))), ?_⟩)))) rfl
  · simp only [decide_eq_false_iff_not, List.length_map] at h1
    have hie : i = ls.length := by omega
    subst hie
    rw [List.drop_length, pRun] at hw
    rw [← hw]
    (refine zGo ?_)
    refine pw_cond rfl (fun h2 => ?_) (fun h2 => ?_)
    · have h3 : t.devs.length = 0 := by simpa using h2
      rw [pEnd, if_neg (show ¬ ((0 : Int) != 0) = true by decide), if_pos h3]
      (refine zGo ?_)
      exact ret0 _ (.tup [eTopo topo0, .int .i64 0, .int .i64 19]) rfl rfl (by (refine .inr (.inr (.inr (.inr (.inr ⟨_, _, rfl, rfl, ?_⟩)))); (repeat (first | trivial | refine ⟨.inr (.inl rfl), ?_⟩ | refine ⟨.inr (.inr (.inl ⟨rfl, rfl⟩)), ?_⟩ | refine ⟨.inr (.inr (.inr (.inl ⟨_, _, _, _, _, _, rfl, rfl, rfl, rfl, rfl⟩))), ?_⟩ | refine ⟨.inr (.inr (.inr (.inr (.inl ⟨_, _, rfl, rfl, ?_⟩)))), ?_⟩)))) rfl
    · have h3 : ¬ t.devs.length = 0 := by simpa using h2
      rw [pEnd, if_neg (show ¬ ((0 : Int) != 0) = true by decide), if_neg h3]
      (refine zGo ?_)
      exact ret0 _ (.tup [eTopo t, .int .i64 0, .int .i64 0]) rfl rfl (by (refine .inr (.inr (.inr (.inr (.inr ⟨_, _, rfl, rfl, ?_⟩)))); (repeat (first | trivial | refine ⟨.inr (.inl rfl), ?_⟩ | refine ⟨.inr (.inr (.inl ⟨rfl, rfl⟩)), ?_⟩ | refine ⟨.inr (.inr (.inr (.inl ⟨_, _, _, _, _, _, rfl, rfl, rfl, rfl, rfl⟩))), ?_⟩ | refine ⟨.inr (.inr (.inr (.inr (.inl ⟨_, _, rfl, rfl, ?_⟩)))), ?_⟩)))) rfl
end Go.Proofs.YtdehdgbdcfkpbaaGreatDoor
namespace Go.Proofs.YtdehdgbdcfkpbaaGreatDoor
open Go Go.Pw
variable {Gl : Glob}
attribute [local irreducible] PW PWL OpP PCalls

/-- nsgref11.Device -/
theorem c66 (t : Topo) (name : Str) (hl : Small t.devs) : PFun Tryz.prog Gl 66 [eTopo t, .str name] fun r => r = .int .i64 (firstAt (fun d => d.name == name) t.devs) := by
  refine PFun.of hT Tryz.func66 rfl fun B hD => ?_
  refine pw_norm rfl ?_
  (refine zGo ?_)
  refine pw_for hD (fun i : Nat => [(5, .int .i64 i)]) (fun _ => [.box (eTopo t).cells]) (fun i => i ≤ t.devs.length ∧ ∀ (j : Nat) d, j < i → t.devs[j]? = some d → (d.name == name) = false) (fun i => t.devs.length - i) 0 ⟨by omega, by intro j d h; omega⟩ 1 rfl (fun _ => rfl) (StLe.refl _) (fun _ => rfl) (fun _ => rfl) (by (exact zLe)) ?_
  rintro i ⟨hi, hno⟩
  unfold Small at hl
  (refine zGo ?_)
  refine pw_cond rfl (fun h => ?_) (fun h => ?_)
  · simp only [decide_eq_true_eq, List.length_map] at h
    have hlt : i < t.devs.length := by omega
    (refine zGo ?_)
    (refine pl_op rfl (op_of (v_index (p := eDev t.devs[i]) hT rfl rfl rfl rfl (by omega) (by simp [hlt]) rfl) ?_); (refine zNp ?_))
    (refine zGo ?_)
    refine pw_cond rfl (fun h2 => ?_) (fun h2 => ?_)
    · (refine zGo ?_)
      refine ret1 _ rfl ?_ rfl
      rw [firstAt_hit hlt h2 hno]
    · (refine zGo ?_)
      (refine zGo ?_)
      refine ⟨i + 1, ⟨by omega, fun j d hj hd => ?_⟩, by omega, by (exact zLe), StLe.refl _⟩
      rcases Nat.lt_succ_iff_lt_or_eq.1 hj with hj | rfl
      · exact hno j d hj hd
      · rw [List.getElem?_eq_getElem hlt] at hd; cases hd; exact h2
  · simp only [decide_eq_false_iff_not, List.length_map] at h
    (refine zGo ?_)
    refine ret1 _ rfl ?_ rfl
    rw [firstAt_miss fun j x hj => hno j x (by have := (List.getElem?_eq_some_iff.1 hj).1; omega) hj]
end Go.Proofs.YtdehdgbdcfkpbaaGreatDoor
