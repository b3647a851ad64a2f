/-
 Appends, put together.
 Regions, bodies and calls.
 Calls, and steps: an operation with its slot and its guard.
-/
import Derived.Test.YtokclomhkggikaaGreatDoorVEvFill
import Derived.Test.YtokclomhkggikaaGreatDoorVEvSem
namespace Go.Ev
open Go
noncomputable section
section
variable {P : Program} {gl : List (Nat × List V)} {CO : Call → Prop} {β : List Nat} {w : World}
theorem run_append {x y : Operand} {ts : Array TypeId} {o : Oper} (ho : o.op = .call ⟨.builtin .append, #[x, y], ts⟩) (ρ : Operand → Value) {w w' : World} {v : Value} (h : (Builtin.append_ ts o.type #[ρ x, ρ y]).run P w = .ok v w') : (execOp ρ o).run P w = .ok (.value v) w' := by
 refine run_builtin ho ρ ?_
 simp only [Go.builtin, Sem.run_bind]
 have hm : #[x, y].map ρ = #[ρ x, ρ y] := by simp
 rw [hm, h]
 rfl
theorem take_cells {cs : List V} {vs : List Value} (hl : DenL β cs (vs.take cs.length)) {n : Nat} (hn : n ≤ cs.length) : DenL β (cs.take n) (vs.take n) := by
 have := hl.take n
 rwa [List.take_take, Nat.min_eq_left hn] at this
theorem appendK_ok {o : Oper} {st : St} {K : KS} {outs : List Dl} (hok : st.Ok) {B : Base} {tmps : List Value} {Q : Exit → Act → World → Prop} (hi : Inv gl B w β (lst st)) {x y : Operand} {t u e k b : Nat} {z : List V} (ho : o.op = .call ⟨.builtin .append, #[x, y], #[t, u]⟩)
  (ht : tkT P t = some (.sl e k b)) (hz : zeroT P e = some z) (hzl : z.length = k) (h1z : allOne z = true) (hb0 : 0 < b) (hk0 : 0 < k) {p : V} {m : Nat} {new : List V} {us : List Value} (hd : Den β p ((⟨tmps.toArray, []⟩ : Act).eval x))
  (hnew : NewR P w e k #[t, u] ((⟨tmps.toArray, []⟩ : Act).eval y) m us) (hl : DenL β new us) (h1 : ∀ u ∈ us, u.oneCell' = true) (h : appendK k b p m new st K = some outs) :
  o.wp P ⟨tmps.toArray, []⟩ w (fun a' w' => ∃ v x st' β', a' = (⟨tmps.toArray, []⟩ : Act).put o.dst v ∧ KOk K outs x st' ∧ Good st st' ∧ Den β' x v ∧ Inv gl B w' β' (lst st') ∧ Pre β β') Q := by
 obtain ⟨i, d, hi1, hu, htk⟩ := tkT_spec ht
 obtain ⟨rfl, ie, hie, hsz, hby⟩ := tkOf_sl htk
 obtain ⟨i2, zv, hi2, hzv, hzs, hrep⟩ := denL_repl hz hzl h1z hk0
 rw [hie] at hi2
 cases hi2
 have hzc1 : ∀ n, ∀ v ∈ (Builtin.zeroCells zv.cells n).toList, v.oneCell' = true := fun n v hv => by
  obtain ⟨r1, r2, r3, r4⟩ := hrep n
  rw [zeroCells_eq zv n hzs r4] at hv
  exact r2 v (by simpa using hv)
 have hzcl : ∀ n, (Builtin.zeroCells zv.cells n).toList.length = n * k := fun n => by simp [Builtin.zeroCells, hzs]
 have hnr := hnew.run o.type
 -- where the model makes room
 have grow : ∀ (st1 : St) (hg1 : Good st st1) (hi' : Inv gl B w β (lst st1)) (base : Option Addr) (n cap : Nat) (oldV : List V) (old : List Value), (⟨tmps.toArray, []⟩ : Act).eval x = .slice base n cap → cap < n + m → (n + m) * b ≤ 140737488355328 →
   DenL β oldV old → (∀ v ∈ old, v.oneCell' = true) → old.length = n * k → (∀ w2 : World, w2.heap = w.heap → (Builtin.firstCells k n (.slice base n cap)).run P w2 = .ok old.toArray w2) → newVec k (n + m) (oldV ++ new) st1 K = some outs →
   o.wp P ⟨tmps.toArray, []⟩ w (fun a' w' => ∃ v x st' β', a' = (⟨tmps.toArray, []⟩ : Act).put o.dst v ∧ KOk K outs x st' ∧ Good st st' ∧ Den β' x v ∧ Inv gl B w' β' (lst st') ∧ Pre β β') Q := by
  intro st1 hg1 hi' base n cap oldV old hv hg hbd hol ho1 holl hfc hK
  have hrun := run_append (P := P) (w := w) ho (⟨tmps.toArray, []⟩ : Act).eval (by
   rw [hv]
   exact (hnr base n cap t u ie rfl hu hie hsz (by omega) (by rw [hby]; exact hbd)).2 hg zv old hzv hfc)
  have hneed : n + m ≤ maxLen := by
   have : n + m ≤ 140737488355328 := Nat.le_trans (Nat.le_mul_of_pos_right _ hb0) hbd
   unfold maxLen; omega
  obtain ⟨hc1, hc2⟩ := cap_cut (n + m) cap e (w.tape w.drawn (Question.appendCap (n + m) cap e)) hneed
  generalize (Question.appendCap (n + m) cap e).cut (w.tape w.drawn (Question.appendCap (n + m) cap e)) = nc at hrun hc1 hc2
  have hul := hnew.len
  have hlen : (old ++ (us ++ (Builtin.zeroCells zv.cells (nc - (n + m))).toList)).length = nc * k := by
   simp only [List.length_append, holl, hul, hzcl]
   rw [← Nat.add_mul, ← Nat.add_mul]
   congr 1; omega
  have hcl : (oldV ++ new).length = old.length + us.length := by simp [hol.1, hl.1]
  obtain ⟨xr, st', β', g1, g2, g3, g4, g5⟩ := newVec_ok (e := e) hg1.ok hi' hK (vs := old ++ (us ++ (Builtin.zeroCells zv.cells (nc - (n + m))).toList)) (c := nc) (by
    rw [hcl, ← List.append_assoc, List.take_append_of_le_length (by simp), List.take_of_length_le (by simp)]
    exact hol.append hl)
   (by rw [hcl]; simp) (fun v hv => by
    rcases List.mem_append.1 hv with hv | hv
    ·exact ho1 v hv
    ·rcases List.mem_append.1 hv with hv | hv
     ·exact h1 v hv
     ·exact hzc1 _ v hv) hlen hc1
  unfold Oper.wp
  rw [hrun]
  exact ⟨_, xr, st', β', rfl, g1, hg1.trans g2, g3, g4, g5⟩
 unfold appendK at h
 cases hm0 : Nat.beq m 0 with
 | true =>
  -- nothing is appended
  rw [hm0] at h
  have hm := Nat.eq_of_beq_eq_true hm0
  subst hm
  have hus : us = [] := by apply List.eq_nil_of_length_eq_zero; rw [hnew.len]; simp
  subst hus
  cases p <;> first | (cases h; done) | skip
  case nilsl =>
   generalize hv : (⟨tmps.toArray, []⟩ : Act).eval x = v at hd
   cases hd
   have hrun := run_append (P := P) (w := w) ho (⟨tmps.toArray, []⟩ : Act).eval (by
    rw [hv]
    exact (hnr none 0 0 t u ie rfl hu hie hsz (by omega) (by simp)).1 (Nat.le_refl _) w (fun a ha => by cases ha) (fun _ => rfl))
   unfold Oper.wp
   rw [hrun]
   exact ⟨_, _, st, β, rfl, .of h, .refl hok, .nilsl, hi, .refl _⟩
  case sl k' i off len cap =>
   have hd' := hd
   obtain ⟨b', c, hb, hcap, hlc, hv⟩ := hd.sl_inv
   obtain ⟨hbd, h2⟩ := iff_some (b := Nat.ble (len * b) 140737488355328) h
   have hbd' := Nat.le_of_ble_eq_true hbd
   have hrun := run_append (P := P) (w := w) ho (⟨tmps.toArray, []⟩ : Act).eval (by
    rw [hv]
    exact (hnr (some ⟨b', off * k', none⟩) len c t u ie rfl hu hie hsz (by omega) (by rw [hby]; exact hbd')).1 (by omega) w (fun a _ => rfl) (fun hn => by cases hn))
   unfold Oper.wp
   rw [hrun]
   exact ⟨_, _, st, β, rfl, .of h2, .refl hok, .sl _ _ _ _ _ _ _ hb hcap hlc, hi, .refl _⟩
 | false =>
  rw [hm0] at h
  have hmne := Nat.ne_of_beq_eq_false hm0
  cases p <;> first | (cases h; done) | skip
  case nilsl =>
   generalize hv : (⟨tmps.toArray, []⟩ : Act).eval x = v at hd
   cases hd
   obtain ⟨hbd, h2⟩ := iff_some (b := Nat.ble (m * b) 140737488355328) h
   have hbd' := Nat.le_of_ble_eq_true hbd
   exact grow st (.refl hok) hi none 0 0 [] [] hv (by omega) (by rw [Nat.zero_add]; exact hbd') .nil (by simp) (by simp) (fun w2 _ => rfl) (by rw [Nat.zero_add]; exact h2)
  case sl k' i off len cap =>
   obtain ⟨b', c, hb, hcap, hlc, hv⟩ := hd.sl_inv
   obtain ⟨hk, h2⟩ := iff_some (b := Nat.beq k k') h
   have hkk := Nat.eq_of_beq_eq_true hk
   subst hkk
   rw [fNat_eq] at h2
   obtain ⟨hbd, h3⟩ := iff_some h2
   have hbd' := Nat.le_of_ble_eq_true hbd
   -- where there is room: cells are written over
   have fit : ∀ (ob ob' : O), (lst st)[i]? = some ob → Wr ((off + len) * k) new ob ob' → i < st.n → len + m ≤ c → K (.sl k i off (len + m) cap) (st.put i ob') = some outs →
     o.wp P ⟨tmps.toArray, []⟩ w (fun a' w' => ∃ v x st' β', a' = (⟨tmps.toArray, []⟩ : Act).put o.dst v ∧ KOk K outs x st' ∧ Good st st' ∧ Den β' x v ∧ Inv gl B w' β' (lst st') ∧ Pre β β') Q := by
    intro ob ob' hob hwr hlt hfit hK
    obtain ⟨w', r1, hi'⟩ := write_obj (P := P) hi hb hob hwr hl h1
    have hrun := run_append (P := P) (w := w) ho (⟨tmps.toArray, []⟩ : Act).eval (by
     rw [hv]
     exact (hnr (some ⟨b', off * k, none⟩) len c t u ie rfl hu hie hsz (by omega) (by rw [hby]; exact hbd')).1 hfit w' (fun a ha => by
      cases ha
      rw [addr_add, ← Nat.add_mul]; exact r1) (fun hn => by cases hn))
    unfold Oper.wp
    rw [hrun]
    refine ⟨_, _, st.put i ob', β, rfl, .of hK, put_good hok hlt _, .sl _ _ _ _ _ _ _ hb hcap hfit, ?_, Pre.refl _⟩
    rw [put_lst hok hlt]; exact hi'
   cases cap with
   | known n =>
    obtain rfl : c = n := hcap
    change iff (Nat.ble (len + m) c) _ _ = _ at h3
    cases hf : Nat.ble (len + m) c with
    | true =>
     rw [hf] at h3
     obtain ⟨ob, ob', hob, hwr, h4, hlt⟩ := storeK_some hok h3
     exact fit ob ob' hob hwr hlt (Nat.le_of_ble_eq_true hf) h4
    | false =>
     rw [hf] at h3
     have hnf : ¬ len + m ≤ c := fun hh => by rw [Nat.ble_eq_true_of_le hh] at hf; cases hf
     have hdd : Den β (.sl k i off len (.known c)) (.slice (some ⟨b', off * k, none⟩) len c) := .sl _ _ _ _ _ _ _ hb rfl hlc
     have h3' : elemsK k st (.sl k i off len (.known c)) (fun _ old => appK old new fun cs => newVec k (len + m) cs st K) = some outs := h3
     obtain ⟨m', oldV, old, h4, g1, g2, g3, g4, g5⟩ := elemsK_den (P := P) hok hi hdd h3'
     have hm' : m' = len := by
      have : (Builtin.lenOf (.slice (some ⟨b', off * k, none⟩) len c)).run P w = .ok len w := rfl
      rw [this] at g4
      cases g4; rfl
     subst hm'
     rw [appK_eq] at h4
     exact grow st (.refl hok) hi _ _ _ oldV old hv (by omega) hbd' g1 g2 g3 g5 h4
   | ghost ci =>
    obtain ⟨ob, h4, hob⟩ := obj_some hok h3
    cases ob <;> first | (cases h4; done) | skip
    case vec k2 ci2 cs =>
     rcases hob with hob | hob
     ·cases hob
     have hlt : i < st.n := by rw [← lst_len hok]; exact (List.getElem?_eq_some_iff.1 hob).1
     obtain ⟨hcc, h5⟩ := iff_some h4
     simp only [Bool.and_eq_true] at hcc
     obtain rfl := Nat.eq_of_beq_eq_true hcc.1
     obtain rfl := Nat.eq_of_beq_eq_true hcc.2
     obtain ⟨tot, vs, T, fr, q0, q1, q2, q3, q4, q5, q6⟩ := hi.obj i b' _ hb hob
     have htot : tot = off + c := by rw [hcap] at q0; cases q0; rfl
     have hnl : new.length = m * k2 := by rw [hl.1]; exact hnew.len
     rw [overK_eq] at h5
     by_cases hle : (off + len) * k2 + new.length ≤ cs.length
     ·rw [if_pos hle] at h5
      change st.set i (.vec k2 ci _) (fun s => K (.sl k2 i off (len + m) (.ghost ci)) s) = some outs at h5
      rw [set_eq hlt] at h5
      refine fit _ _ hob (.vec _ _ _ hle) hlt ?_ h5
      have h6 : (off + len + m) * k2 ≤ (off + c) * k2 := by
       rw [Nat.add_mul (off + len) m, ← hnl, ← htot, ← q2]; omega
      have := Nat.le_of_mul_le_mul_right h6 hk0
      omega
     ·rw [if_neg hle] at h5
      obtain ⟨hoff, h6⟩ := iff_some h5
      have hoff' := Nat.eq_of_beq_eq_true hoff
      subst hoff'
      simp only [takeK_eq] at h6
      obtain ⟨holl, h7⟩ := iff_some h6
      have holl' := Nat.eq_of_beq_eq_true holl
      rw [appK_eq, set_eq hlt] at h7
      have hlen2 : len * k2 ≤ cs.length := by simp at holl'; omega
      have hold := take_cells q4 hlen2
      have up : ∀ v ∈ vs.take (len * k2), v ∈ vs.take cs.length := fun v hv => by
       rw [← Nat.min_eq_left hlen2, ← List.take_take] at hv
       exact List.mem_of_mem_take hv
      have hk1 : Inv gl B w β (lst (st.put i .dead)) := by rw [put_lst hok hlt]; exact hi.kill i
      by_cases hfit : len + m ≤ c
      ·-- there is room behind what is known: the block gets a new number
       have hno : ∀ j, β[j]? = some b' → ¬ liveAt (lst (st.put i .dead)) j := fun j hj hlv => by
        rw [put_lst hok hlt] at hlv
        obtain ⟨ob, g1, g2⟩ := hlv
        rw [List.getElem?_set] at g1
        split at g1
        ·split at g1
         ·cases g1; cases g2
         ·cases g1
        ·rename_i hne
         exact hne (hi.inj i j b' hb hj ⟨_, hob, rfl⟩ ⟨ob, g1, g2⟩)
       have hbB := hi.own i b' hb ⟨_, hob, rfl⟩
       have hul := hnew.len
       have htotk : tot * k2 = c * k2 := by rw [htot]; simp
       have hlm : len * k2 + m * k2 ≤ c * k2 := by rw [← Nat.add_mul]; exact Nat.mul_le_mul_right _ hfit
       obtain ⟨w', r1, r2, r3, r4, r5, r6, r7⟩ := run_storeCells (P := P) b' T fr us 0 (len * k2) vs w q1 (by omega) h1 q6
       have hrun := run_append (P := P) (w := w) ho (⟨tmps.toArray, []⟩ : Act).eval (by
        rw [hv]
        exact (hnr (some ⟨b', 0 * k2, none⟩) len c t u ie rfl hu hie hsz (by omega) (by rw [hby]; exact hbd')).1 hfit w' (fun a ha => by
         cases ha
         rw [addr_add, Nat.zero_mul, Nat.zero_add]; exact r1) (fun hn => by cases hn))
       have hi3 := hk1.other hbB hno r2 r3 r4 r5 r6
       have hg1 : Good st (st.put i .dead) := put_good hok hlt _
       generalize hst1 : st.put i .dead = st1 at hg1 hi3 h7 hno
       change st1.push .dead (fun s => s.push (.vec k2 st1.n _) fun s' => K (.sl k2 s.n 0 (len + m) (.ghost st1.n)) s') = some outs at h7
       rw [push_eq, push_eq] at h7
       have hlen1 := hi3.len
       have hln1 := lst_len hg1.ok
       have hi4 := hi3.ghost c
       have hg0 : (β ++ [c])[st1.n]? = some c := by rw [← hln1, ← hlen1]; simp
       have hno' : ∀ j, (β ++ [c])[j]? = some b' → ¬ liveAt (lst st1 ++ [.dead]) j := fun j hj hlv => by
        have hjl : j < (lst st1).length := by
         obtain ⟨ob, g1, g2⟩ := hlv
         rcases Nat.lt_or_ge j (lst st1).length with hh | hh
         ·exact hh
         ·rw [List.getElem?_append_right hh] at g1
          cases hk : j - (lst st1).length with
          | zero => rw [hk] at g1; simp at g1; subst g1; cases g2
          | succ n => rw [hk] at g1; simp at g1
        rw [List.getElem?_append_left (by omega)] at hj
        exact hno j hj (liveAt_snoc hlv hjl)
       have hcl : (cs.take (len * k2) ++ new).length = len * k2 + us.length := by simp [hl.1]; omega
       have htl : (vs.take (len * k2)).length = len * k2 := by simp; omega
       have e : (vs.take (len * k2 + 0) ++ us ++ vs.drop (len * k2 + 0 + us.length)).take (cs.take (len * k2) ++ new).length = vs.take (len * k2) ++ us := by
        rw [hcl, Nat.add_zero]
        exact List.take_left' (by simp; omega)
       have hi5 := hi4.adopt (b := b') hbB hno' (x := .vec k2 st1.n (cs.take (len * k2) ++ new)) ⟨c, _, T, fr, Pre.snoc _ _ _ _ hg0, r7, by simp; omega, by rw [hcl]; simp; omega, by
        rw [e]
        exact ((hold.append hl).mono (Pre.snoc _ _)).mono (Pre.snoc _ _), fun v hv => by
        rw [e] at hv
        rcases List.mem_append.1 hv with hv | hv
        ·exact q5 v (up v hv)
        ·exact h1 v hv, fun j hj => q6 j (by simp at hj; omega)⟩
       unfold Oper.wp
       rw [hrun]
       refine ⟨_, _, (st1.add .dead).add (.vec k2 st1.n (cs.take (len * k2) ++ new)), β ++ [c] ++ [b'], rfl, .of h7, hg1.trans ((add_good hg1.ok _).trans (add_good (add_ok hg1.ok _) _)), ?_, ?_, (Pre.snoc _ _).trans (Pre.snoc _ _)⟩
       ·refine .sl _ _ _ _ _ _ _ ?_ ?_ hfit
        ·have : (st1.add .dead).n = (β ++ [c]).length := by show st1.n + 1 = _; rw [← hln1, ← hlen1]; simp
         rw [this]; simp
        ·show (β ++ [c] ++ [b'])[st1.n]? = some (0 + c)
         rw [Nat.zero_add]; exact Pre.snoc _ _ _ _ hg0
       ·rw [add_lst, add_lst]; exact hi5
      ·exact grow (st.put i .dead) (put_good hok hlt _) hk1 _ _ _ (cs.take (len * k2)) (vs.take (len * k2)) hv (by omega) hbd' hold (fun v hv => q5 v (up v hv)) (by simp; omega) (fun w2 hw2 => by
        have hc2 : ∀ j, w2.cell? ⟨b', j, none⟩ = vs[j]? := fun j => by simp [World.cell?, hw2, q1]
        have hll := run_loadCells_list (P := P) w2 ⟨b', 0 * k2, none⟩ (vs.take (len * k2)) (fun j v hj => by
         rw [addr_add, hc2, Nat.zero_mul, Nat.zero_add]
         rw [List.getElem?_take] at hj
         split at hj
         ·exact hj
         ·cases hj)
        have : (vs.take (len * k2)).length = len * k2 := by simp; omega
        rw [this] at hll
        simpa only [Builtin.firstCells] using hll) h7
end
end
end Go.Ev
namespace Go.Ev
open Go
noncomputable section
def refs1 (v : V) : List Nat := match v with
 | .ptr i _ => [i]
 | .sl _ i _ _ c => match c with
  | .known _ => [i]
  | .ghost c => [c, i]
 | .map i => [i]
 | _ => []
def refsL {α : Type} (f : α → List Nat) : List α → List Nat → (List Nat → R) → R
 | [], acc, k => k acc
 | x :: xs, acc, k => refsL f xs acc fun acc => appK (f x) acc k
def refsN : Nat → V → List Nat
 | 0, _ => []
 | n + 1, v => match v with
  | .agg cs => cs.flatMap (refsN n)
  | .tup cs => cs.flatMap (refsN n)
  | .fn _ a b => a.flatMap (refsN n) ++ b.flatMap (refsN n)
  | .iface _ v => refsN n v
  | v => refs1 v
def refsC (cs : List V) : List Nat := match norefL cs with
 | true => []
 | false => cs.flatMap (refsN 3)
def refsO (o : O) : List Nat := match o with
 | .box cs => refsC cs
 | .vec _ ci cs => ci :: refsC cs
 | .kmap es _ => es.flatMap fun e => refsN 3 e.2.2
 | .iter m _ _ _ => match m with
  | some m => [m]
  | none => []
 | .dead => []
def renC (r : Nat → Nat) (c : Cap) : Cap := match c with
 | .known n => .known n
 | .ghost c => .ghost (r c)
def renN (r : Nat → Nat) : Nat → V → V
 | 0, _ => .any
 | n + 1, v => match v with
  | .ptr i o => .ptr (r i) o
  | .sl k i o l c => .sl k (r i) o l (renC r c)
  | .map i => .map (r i)
  | .agg cs => .agg (cs.map (renN r n))
  | .tup cs => .tup (cs.map (renN r n))
  | .fn f a b => .fn f (a.map (renN r n)) (b.map (renN r n))
  | .iface t v => .iface t (renN r n v)
  | v => v
def deepN : Nat → V → Bool
 | 0, _ => false
 | n + 1, v => match v with
  | .agg cs => cs.all (deepN n)
  | .tup cs => cs.all (deepN n)
  | .fn _ a b => a.all (deepN n) && b.all (deepN n)
  | .iface _ v => deepN n v
  | _ => true
def deepC (cs : List V) : Bool := match norefL cs with
 | true => true
 | false => cs.all (deepN 3)
def deepO (o : O) : Bool := match o with
 | .box cs => deepC cs
 | .vec _ _ cs => deepC cs
 | .kmap es _ => es.all fun e => deepN 3 e.2.2
 | _ => true
def norefV (v : V) : Bool := match v with
 | .agg cs => norefL cs
 | .tup cs => norefL cs
 | v => noref1 v
def refsA (v : V) : List Nat := match norefV v with
 | true => []
 | false => refsN 5 v
def renA {β : Type} (r : Nat → Nat) (v : V) (k : V → β) : β := match norefV v with
 | true => k v
 | false => fV (renN r 5 v) k
def renLK {β : Type} (r : Nat → Nat) (cs : List V) (k : List V → β) : β := match norefL cs with
 | true => k cs
 | false => mapK (fun v k => fV2 (renN r 3 v) k) cs k
def renK {β : Type} (r : Nat → Nat) (o : O) (k : O → β) : β :=
 match o with
 | .box cs => renLK r cs fun cs => k (.box cs)
 | .vec kk ci cs => fNat (r ci) fun ci => renLK r cs fun cs => k (.vec kk ci cs)
 | .kmap es c => mapK fE (es.map fun e => (e.1, e.2.1, renN r 3 e.2.2)) fun es => k (.kmap es c)
 | .iter m s l c => match m with
  | some m => fNat (r m) fun m => k (.iter (some m) s l c)
  | none => k (.iter none s l c)
 | .dead => k .dead
def reach (st : St) (b : Nat) : Nat → List Nat → List Nat → (List Nat → R) → R
 | 0, _, _, _ => none
 | n + 1, todo, sel, k => match todo with
  | [] => k sel
  | i :: todo => iff (Nat.blt i b || memN i sel) (reach st b n todo sel k) (iff (Nat.blt i st.n) (st.obj i fun o => appK (refsO o) todo fun todo => appK sel [i] fun sel => reach st b n todo sel k) none)
def posIn (i : Nat) : List Nat → Nat
 | [] => 0
 | j :: l => match Nat.beq i j with
  | true => 0
  | false => posIn i l + 1
def renTo (b : Nat) (sel : List Nat) (i : Nat) : Nat := match Nat.blt i b with
 | true => i
 | false => b + posIn i sel
def outTo (m n : Nat) (sel : List Nat) (j : Nat) : Nat := match Nat.blt j m with
 | true => (sel[j]?).getD 0
 | false => n + (j - m)
def eqCap : Cap → Cap → Bool
 | .known a, .known b => Nat.beq a b
 | .ghost a, .ghost b => Nat.beq a b
 | _, _ => false
def eqL {α : Type} (f : α → α → Bool) : List α → List α → Bool
 | [], [] => true
 | x :: xs, y :: ys => f x y && eqL f xs ys
 | _, _ => false
def eqV : Nat → V → V → Bool
 | 0, _, _ => false
 | n + 1, x, y => match x, y with
  | .any, .any => true
  | .cell, .cell => true
  | .bool a, .bool b => a == b
  | .int k a, .int k' b => eqKd k k' && eqI a b
  | .str a, .str b => eqB a b
  | .nilptr, .nilptr => true
  | .ptr i o, .ptr j p => Nat.beq i j && Nat.beq o p
  | .gptr i o, .gptr j p => Nat.beq i j && Nat.beq o p
  | .nilsl, .nilsl => true
  | .esl, .esl => true
  | .sl k i o l c, .sl k' i' o' l' c' => Nat.beq k k' && Nat.beq i i' && Nat.beq o o' && Nat.beq l l' && eqCap c c'
  | .nilmap, .nilmap => true
  | .map i, .map j => Nat.beq i j
  | .nilfn, .nilfn => true
  | .fn f a b, .fn f' a' b' => Nat.beq f f' && eqL (eqV n) a a' && eqL (eqV n) b b'
  | .niliface, .niliface => true
  | .iface t a, .iface t' b => Nat.beq t t' && eqV n a b
  | .agg a, .agg b => eqL (eqV n) a b
  | .tup a, .tup b => eqL (eqV n) a b
  | _, _ => false
def eqO : O → O → Bool
 | .dead, .dead => true
 | .box a, .box b => eqL (eqV 4) a b
 | .vec k c a, .vec k' c' b => Nat.beq k k' && Nat.beq c c' && eqL (eqV 4) a b
 | .kmap a c, .kmap b d => Nat.beq c d && eqL (fun x y => Nat.beq x.1 y.1 && eqV 4 x.2.1 y.2.1 && eqV 4 x.2.2 y.2.2) a b
 | .iter (some m) s l c, .iter (some m') s' l' c' => Nat.beq m m' && Nat.beq s s' && eqL Nat.beq l l' && Nat.beq c c'
 | _, _ => false
def eqDl (a b : Dl) : Bool := eqL (eqV 5) a.vs b.vs && eqL eqO a.new b.new && eqL (fun x y => Nat.beq x.1 y.1 && eqO x.2 y.2) a.old b.old
def addDl (d : Dl) : List Dl → List Dl
 | [] => [d]
 | e :: l => match eqDl d e with
  | true => e :: l
  | false => e :: addDl d l
def dedup : List Dl → List Dl → List Dl
 | [], acc => acc
 | d :: l, acc => dedup l (addDl d acc)
def dedupe (l : List Dl) : List Dl := match l with
 | [] => []
 | d :: l => match l with
  | [] => [d]
  | l => dedup (d :: l) []
def insN (i : Nat) : List Nat → List Nat
 | [] => [i]
 | j :: l => match Nat.ble i j with
  | true => i :: j :: l
  | false => j :: insN i l
def sortN : List Nat → List Nat
 | [] => []
 | i :: l => insN i (sortN l)
def deltaK (st : St) (vs : List V) (k : Dl → R) : R :=
 spK (sortN st.dl) fun dl =>
 refsL refsA vs [] fun rs =>
 refsL (fun i => st.obj (β := List Nat) i refsO) dl rs fun rs =>
 reach st st.n0 100000 rs [] fun sel =>
 mapK (fun v k => renA (renTo st.n0 sel) v k) vs fun vs =>
 mapK (fun i k => st.obj i fun o => renK (renTo st.n0 sel) o k) sel fun new =>
 mapK (fun i k => st.obj i fun o => renK (renTo st.n0 sel) o fun o => k (i, o)) dl fun old => k ⟨vs, new, old⟩
def pushAll (l : List O) (s : St) (k : St → R) : R := match l with
 | [] => k s
 | o :: os => s.push o fun s => pushAll os s k
def setAll (l : List (Nat × O)) (s : St) (k : St → R) : R := match l with
 | [] => k s
 | x :: l => s.set x.1 x.2 fun s => setAll l s k
def applyK (d : Dl) (st : St) (k : St → R) : R := setAll d.old st fun s => pushAll d.new s k
abbrev Step := Call → Env → St → (Env → St → R) → R
def dstOf (ops : Array Oper) (j : Nat) : Option Tmp := match ops.toList[j]? with
 | some o => o.dst
 | none => none
def stepO (u : U) (s : Sm) : Step := fun call env st K => s call env st fun v st => u env v fun env => K env st
def moveO (u : U) (g : G) : Step := fun _ env st K => g env fun v => u env v fun env => K env st
def stepG (g : G) (w : Bool) (u : U) (s : Step) : Step := fun call env st K => g env fun v => match v with
 | .bool b => iff (b == w) (s call env st K) (u env (.tup []) fun env => K env st)
 | .tup [] => u env (.tup []) fun env => K env st
 | _ => none
def failS : Step := fun _ _ _ _ => none
def compS (P : Program) (gl : List (Nat × List V)) (u : U) (o : Op) : Bx0 Step := match o with
 | .assign x => withO x fun g => ⟨moveO u g⟩
 | .move x => withO x fun g => ⟨moveO u g⟩
 | o => match compOp P gl o with
  | some s => ⟨stepO u s⟩
  | none => ⟨failS⟩
def guardS (ops : Array Oper) (o : Oper) (u : U) (s : Step) : Bx0 Step := match o.guard with
 | none => ⟨s⟩
 | some g => match dstOf ops g.1 with
  | none => ⟨failS⟩
  | some d => match getC d with
   | ⟨x⟩ => fBool g.2 fun w => ⟨stepG x w u s⟩
def compO (P : Program) (gl : List (Nat × List V)) (ops : Array Oper) (o : Oper) : Bx0 Step := withD o.dst fun u => match compS P gl u o.op with
 | ⟨s⟩ => guardS ops o u s
def K0 : KS := fun x _ => some [⟨[x], [], []⟩]
def valS (s : Sm) (call : Call) (env : Env) (st : St) (k : V → R) : R := match s call env st K0 with
 | some l => match l with
  | [] => none
  | d :: l => match l with
   | [] => match d.vs with
    | [] => none
    | x :: _ => k x
   | _ :: _ => none
 | none => none
def freeO (u : U) (s : Sm) : Step := fun call env st K => valS s call env st fun v => u env v fun env => K env st
def compOF (P : Program) (gl : List (Nat × List V)) (ops : Array Oper) (o : Oper) : Bx0 Step := withD o.dst fun u => match compOp P gl o.op with
 | some s => guardS ops o u (freeO u s)
 | none => ⟨failS⟩
def thenS (a b : Step) : Step := fun call env st K => a call env st fun env st => b call env st K
def doneS : Step := fun _ env st K => K env st
def compSeq (P : Program) (gl : List (Nat × List V)) (ops : Array Oper) (l : List Oper) : Bx0 Step := match l with
 | [] => ⟨doneS⟩
 | o :: l => match compO P gl ops o with
  | ⟨a⟩ => match l with
   | [] => ⟨a⟩
   | l => match compSeq P gl ops l with
    | ⟨b⟩ => ⟨thenS a b⟩
inductive Plan where
 | done
 | op (i : Nat) (free : Bool) (rest : Plan)
 | alt (i : Nat) (p q : Plan)
 | dead
 | fail
def pureC : Op → Bool
 | .move _ | .assign _ | .pick .. | .nilCheck _ | .unOp .. | .binOp .. | .fieldAddr .. | .field .. | .load .. | .extract .. | .makeInterface .. | .makeFunc .. | .build .. | .index .. | .indexAddr .. | .convert .. => true
 | .call c => match c.callee with | .builtin .len | .builtin .min | .builtin .max | .builtin .cap => true | _ => false
 | _ => false
structure OI where
 after : Nat
 d : Nat
 k : Nat
 pure : Bool
def bit (t : Nat) : Nat := Nat.pow 2 t
def hasB (l i : Nat) : Bool := Nat.beq (Nat.land (Nat.shiftRight l i) 1) 1
def afterB : List Edge → Nat → Nat
 | [], acc => acc
 | e :: l, acc => match Region.binds .any e with
  | true => fNat (Nat.lor acc (bit e.on)) fun acc => afterB l acc
  | false => afterB l acc
def looksB : List Operand → Nat → Nat
 | [], acc => acc
 | x :: l, acc => match x with
  | .tmp t => fNat (Nat.lor acc (bit t)) fun acc => looksB l acc
  | _ => looksB l acc
def guardB (ops : Array Oper) (o : Oper) : Nat := match o.guard with
 | some g => match dstOf ops g.1 with
  | some d => bit d
  | none => 0
 | none => 0
def infoK {β : Type} (ops : Array Oper) (o : Oper) (k : OI → β) : β :=
 fNat (afterB o.after.toList 0) fun a => fNat (match o.dst with | some d => bit d | none => 0) fun d => fNat (looksB o.op.operands.toList (guardB ops o)) fun l => fBool (pureC o.op) fun p => k ⟨a, d, l, p⟩
def readyB : List OI → Nat → Nat → List Nat
 | [], _, _ => []
 | o :: l, i, L => match hasB L i with
  | true => readyB l (i + 1) L
  | false => match Nat.beq (Nat.land o.after L) o.after with
   | true => i :: readyB l (i + 1) L
   | false => readyB l (i + 1) L
def freeB (i : Nat) (oi : OI) (L : Nat) : List OI → Nat → Bool
 | [], _ => true
 | o :: l, j => match Nat.beq j i with
  | true => freeB i oi L l (j + 1)
  | false => match hasB L j with
   | true => freeB i oi L l (j + 1)
   | false => match hasB o.after i with
    | true => freeB i oi L l (j + 1)
    | false => match Nat.beq (Nat.land oi.d (Nat.lor o.k o.d)) 0 with
     | true => match Nat.beq (Nat.land o.d oi.k) 0 with
      | true => freeB i oi L l (j + 1)
      | false => false
     | false => false
def findFree (is : List OI) (L : Nat) : List Nat → Option Nat
 | [] => none
 | i :: l => match is[i]? with
  | some oi => match oi.pure with
   | true => match freeB i oi L is 0 with
    | true => some i
    | false => findFree is L l
   | false => findFree is L l
  | none => none
def planGo (is : List OI) : Nat → Nat → Plan
 | 0, L => match readyB is 0 L with
  | [] => .done
  | _ => .fail
 | n + 1, L => match readyB is 0 L with
  | [] => .done
  | l => match findFree is L l with
   | some i => fNat (Nat.lor L (bit i)) fun L => .op i true (planGo is n L)
   | none => match l with
    | [i] => fNat (Nat.lor L (bit i)) fun L => .op i false (planGo is n L)
    | l => l.foldr (fun i q => fNat (Nat.lor L (bit i)) fun L => .alt i (planGo is n L) q) .dead
def planOf (ops : Array Oper) : Bx0 Plan := mapK (fun o k => infoK ops o k) ops.toList fun is => ⟨planGo is is.length 0⟩
def forks (p : Plan) : Bool := match p with
 | .done => false
 | .op _ _ p => forks p
 | _ => true
def waits (ops : Array Oper) (j k : Nat) : Bool :=
 match ops[j]? with
 | some o => o.after.any fun e => Region.binds .any e && e.on == k
 | none => false
def lok (ops : Array Oper) (j : Nat) (dl : List Nat) : List (Nat × Nat) → Bool
 | [] => true
 | (k, pos) :: l => (waits ops j k || !memN pos dl) && lok ops j dl l
def markAll (n0 : Nat) (l dl : List Nat) (k : List Nat → R) : R := match l with
 | [] => k dl
 | i :: l => mark n0 i dl fun dl => markAll n0 l dl k
abbrev LStep := Call → Env → St → List (Nat × Nat) → (Env → St → R) → R
def freeL (i : Nat) (g : G) (s : Step) (p : LStep) : LStep := fun call env st L K => g env fun v => match v with
 | .ptr j _ => iff (Nat.blt j st.n) (s call env st fun env st => p call env st ((i, j) :: L) K) none
 | _ => s call env st fun env st => p call env st L K
def freeS (s : Step) (p : LStep) : LStep := fun call env st L K => s call env st fun env st => p call env st L K
def openS (ops : Array Oper) (i : Nat) (s : Step) (p : LStep) : LStep := fun call env st L K => match L with
 | [] => s call env st fun env st => p call env st [] K
 | L => s call env ⟨st.n, st.n, st.os, []⟩ fun env s' => iff (lok ops i s'.dl L) (markAll st.n0 s'.dl st.dl fun dl => p call env ⟨s'.n, st.n0, s'.os, dl⟩ L K) none
def altS (p q : LStep) : LStep := fun call env st L K => match p call env st L K with
 | some a => match q call env st L K with
  | some b => some (a ++ b)
  | none => none
 | none => none
def doneL : LStep := fun _ env st _ K => K env st
def deadL : LStep := fun _ _ _ _ _ => some []
def failL : LStep := fun _ _ _ _ _ => none
def compFree (i : Nat) (o : Op) (s : Step) (p : LStep) : Bx0 LStep := match o with
 | .load _ x => withO x fun g => ⟨freeL i g s p⟩
 | _ => ⟨freeS s p⟩
def compPlan (P : Program) (gl : List (Nat × List V)) (ops : Array Oper) (p : Plan) : Bx0 LStep := match p with
 | .done => ⟨doneL⟩
 | .dead => ⟨deadL⟩
 | .fail => ⟨failL⟩
 | .op i free p => match ops.toList[i]? with
  | none => ⟨failL⟩
  | some o => match compPlan P gl ops p with
   | ⟨p⟩ => match free with
    | true => match compOF P gl ops o with
     | ⟨s⟩ => compFree i o.op s p
    | false => match compO P gl ops o with
     | ⟨s⟩ => ⟨openS ops i s p⟩
 | .alt i p q => match ops.toList[i]? with
  | none => ⟨failL⟩
  | some o => match compO P gl ops o with
   | ⟨s⟩ => match compPlan P gl ops p with
    | ⟨p⟩ => match compPlan P gl ops q with
     | ⟨q⟩ => ⟨altS (openS ops i s p) q⟩
def dstsOf : List Oper → List Tmp
 | [] => []
 | o :: l => match o.dst with
  | some d => d :: dstsOf l
  | none => dstsOf l
def putAll (us : List U) (vs : List V) (env : Env) (k : Env → R) : R := match us with
 | [] => k env
 | u :: us => match vs with
  | [] => k env
  | v :: vs => u env v fun env => putAll us vs env k
def plainS (p : LStep) : Step := fun call env st K => p call env st [] K
def forkS (gs : List G) (us : List U) (p : LStep) : Step := fun call env st K =>
 match p call env ⟨st.n, st.n, st.os, []⟩ [] (fun env s => opsK gs env fun vs => deltaK s vs fun d => some [d]) with
 | some l => many (dedupe l) fun d => applyK d st fun s => putAll us d.vs env fun env => K env s
 | none => none
def compDraw (P : Program) (gl : List (Nat × List V)) (ops : Array Oper) : Bx0 Step := match planOf ops with
 | ⟨p⟩ => match compPlan P gl ops p with
  | ⟨s⟩ => match forks p with
   | true => mapK (fun d k => match getC d with | ⟨g⟩ => k g) (dstsOf ops.toList) fun gs => mapK (fun d k => match putC d with | ⟨u⟩ => k u) (dstsOf ops.toList) fun us => ⟨forkS gs us s⟩
   | false => ⟨plainS s⟩
inductive Ex where
 | normal
 | exit (id : Nat)
 | ret
abbrev KC := Ex → Env → St → R
abbrev CSem := Call → Nat → Env → St → KC → R
def seqC (a b : CSem) : CSem := fun call n env st K => a call n env st fun e env st => match e with
 | .normal => b call n env st K
 | .exit id => K (.exit id) env st
 | .ret => K .ret env st
def condC (g : G) (a b : CSem) : CSem := fun call n env st K => g env fun v => vBool v fun t => iff t (a call n env st K) (b call n env st K)
def blockC (id : Nat) (a : CSem) : CSem := fun call n env st K => a call n env st fun e env st => match e with
 | .normal => K .normal env st
 | .exit id' => iff (Nat.beq id' id) (K .normal env st) (K (.exit id') env st)
 | .ret => K .ret env st
def loopN (a : Env → St → KC → R) : Nat → Env → St → KC → R
 | 0, _, _, _ => none
 | n + 1, env, st, K => a env st fun e env st => match e with
  | .normal => loopN a n env st K
  | .exit id => K (.exit id) env st
  | .ret => K .ret env st
def loopC (a : CSem) : CSem := fun call n env st K => loopN (a call n) n env st K
def stepC (s : Step) : CSem := fun call _ env st K => s call env st fun env st => K .normal env st
def skipC : CSem := fun _ _ env st K => K .normal env st
def exitC (id : Nat) : CSem := fun _ _ env st K => K (.exit id) env st
def retC : CSem := fun _ _ env st K => K .ret env st
def failC : CSem := fun _ _ _ _ _ => none
def compReg (P : Program) (gl : List (Nat × List V)) (ops : Array Oper) (draw : Bool) : Bx0 Step := match draw with
 | true => compDraw P gl ops
 | false => compSeq P gl ops ops.toList
def compCode (P : Program) (gl : List (Nat × List V)) (c : Code) : Bx0 CSem := match c with
 | .skip => ⟨skipC⟩
 | .label _ => ⟨skipC⟩
 | .exit id => fNat id fun id => ⟨exitC id⟩
 | .ret => ⟨retC⟩
 | .seq a b => match compCode P gl a with
  | ⟨a⟩ => match compCode P gl b with
   | ⟨b⟩ => ⟨seqC a b⟩
 | .cond c a b => withO c fun g => match compCode P gl a with
  | ⟨a⟩ => match compCode P gl b with
   | ⟨b⟩ => ⟨condC g a b⟩
 | .block id c => fNat id fun id => match compCode P gl c with
  | ⟨c⟩ => ⟨blockC id c⟩
 | .loop c => match compCode P gl c with
  | ⟨c⟩ => ⟨loopC c⟩
 | .region _ ops draw => match compReg P gl ops draw with
  | ⟨s⟩ => ⟨stepC s⟩
 | _ => ⟨failC⟩
def row0 : E8 V := ⟨.any, .any, .any, .any, .any, .any, .any, .any⟩
def row1 : E8 (E8 V) := ⟨row0, row0, row0, row0, row0, row0, row0, row0⟩
def env0 : Env := ⟨row1, row1, row1, row1, row1, row1, row1, row1⟩
def putArgs (vs : List V) (i : Nat) (env : Env) (k : Env → R) : R := match vs with
 | [] => k env
 | v :: vs => match putC i with
  | ⟨u⟩ => u env v fun env => putArgs vs (i + 1) env k
def resK (P : Program) (r : ResultVar) (env : Env) (st : St) (k : V → R) : R := match r with
 | .tmp t => match getC t with
  | ⟨g⟩ => g env k
 | .cell a t => match tyOf P t with
  | some ti => iff ti.tk.known (match getC a with
   | ⟨g⟩ => g env fun v => match v with
    | .ptr i o => st.obj i fun ob => cellsK ob fun cs => partK ti.tk.agg cs o ti.size k
    | _ => none) none
  | none => none
def resAll (P : Program) (rs : List ResultVar) (env : Env) (st : St) (k : V → R) : R := mapK (fun r k => resK P r env st k) rs fun l => match l with
 | [] => k (.tup [])
 | x :: l => match l with
  | [] => k x
  | l => k (.tup (x :: l))
def callS (callee : FuncId → List V → List O → R) : Call := fun f args st K =>
 refsL refsA args [] fun rs =>
 reach st 0 100000 rs [] fun sel =>
  mapK (fun v k => renA (fun i => posIn i sel) v k) args fun args =>
  mapK (fun i k => st.obj i fun o => iff (deepO o) (renK (fun i => posIn i sel) o k) none) sel fun os =>
  match callee f args os with
  | some l => many (dedupe l) fun d => match d.vs with
   | [v] => renA (outTo sel.length st.n sel) v fun v =>
    mapK (fun o k => renK (outTo sel.length st.n sel) o k) d.new fun new =>
    mapK (fun x k => fNat (outTo sel.length st.n sel x.1) fun i => renK (outTo sel.length st.n sel) x.2 fun o => k (i, o)) d.old fun old =>
    applyK ⟨[v], new, old⟩ st fun s => K v s
   | _ => none
  | none => none
def dOkB (N : Nat) (o : Oper) : Bool := (match o.dst with
 | some d => Nat.blt d N
 | none => true) && (match o.op with
 | .select _ _ => false
 | _ => true)
def okC (N : Nat) : Code → Bool
 | .seq a b => okC N a && okC N b
 | .cond _ a b => okC N a && okC N b
 | .block _ c => okC N c
 | .loop c => okC N c
 | .region _ ops _ => ops.toList.all (dOkB N)
 | _ => true
structure Fd where
 code : CSem
 res : List ResultVar
def compF (P : Program) (gl : List (Nat × List V)) (f : FuncId) : Option Fd := match P.funcs[f]? with
 | none => none
 | some fn => match fn.body with
  | none => none
  | some c => match Nat.blt 512 fn.ntmps with
   | true => none
   | false => match okC fn.ntmps c with
    | true => match compCode P gl c with
     | ⟨s⟩ => some ⟨s, fn.results.toList⟩
    | false => none
def bodyOf (P : Program) (gl : List (Nat × List V)) (n : Nat) (f : FuncId) (call : Call) (args : List V) (os : List O) : R :=
 match compF P gl f with
 | none => none
 | some fd => putArgs args 0 env0 fun env => fNat os.length fun m => fd.code call n env ⟨m, m, os.reverse, []⟩ fun e env s => match e with
  | .exit _ => none
  | _ => resAll P fd.res env s fun r => deltaK s [r] fun d => some [d]
def callC (P : Program) (gl : List (Nat × List V)) (n : Nat) (rk : Nat → Nat) (ext : FuncId → List V → List O → Option R) (d : Nat) : FuncId → List V → List O → R :=
 match d with
 | 0 => fun _ _ _ => none
 | d + 1 => fun f args os => iff (Nat.blt (rk f) d) (callC P gl n rk ext d f args os) (match ext f args os with
  | some r => r
  | none => bodyOf P gl n f (callS (callC P gl n rk ext d)) args os)
end
end Go.Ev
namespace Go.Ev
open Go
noncomputable section
def CallOk (P : Program) (gl : List (Nat × List V)) (call : Call) : Prop := ∀ f args st K outs, st.Ok → call f args st K = some outs → (∀ as w, (callFunc f as).run P w = .ok (.enter f as) w) ∧
 ∀ B w β vals, Inv gl B w β (lst st) → DenL β args vals → Calls P f vals.toArray w fun e w' => ∃ v x st' β', e = .returned v ∧ Den β' x v ∧ Inv gl B w' β' (lst st') ∧ Pre β β' ∧ Good st st' ∧ KOk K outs x st'
section
variable {P : Program} {gl : List (Nat × List V)} {β : List Nat} {w : World}
theorem ok_call {fop : Operand} {args : Array Operand} {ats : Array TypeId} : SemOk P gl (CallOk P gl) (.call ⟨.value fop, args, ats⟩) (sCall (opG fop) (args.toList.map opG)) := fun o ho call hc env st K outs hok h B w β tmps Q hi he => by
 obtain ⟨p, hd, h1⟩ := opG_den he h
 cases p <;> first | (cases h1; done) | skip
 case fn f first caps =>
  obtain ⟨vs, us, hv, hl1, hl2⟩ := hd.fn_inv
  obtain ⟨ps, hps, h2⟩ := opsK_den he h1
  simp only [appK_eq] at h2
  obtain ⟨hen, hcall⟩ := hc f _ st K outs hok h2
  have hargs : DenL β (first ++ (ps ++ caps)) (vs ++ (args.toList.map (⟨tmps.toArray, []⟩ : Act).eval ++ us)) := hl1.append (hps.append hl2)
  have hcc := hcall B w β _ hi hargs
  have hrun : (execOp (⟨tmps.toArray, []⟩ : Act).eval o).run P w = .ok (.enter f (vs ++ (args.toList.map (⟨tmps.toArray, []⟩ : Act).eval ++ us)).toArray) w := by
   simp only [execOp, ho, Go.resolve, hv, Deferred.ofValue, Sem.run_bind, Sem.run_pure, Result.andThen_ok, invoke]
   rw [hen]
   congr 2
   exact Array.ext' (by simp)
  unfold Oper.wp
  rw [hrun]
  refine hcc.mono ?_
  rintro e w' ⟨v, x, st', β', rfl, g1, g2, g3, g4, g5⟩
  exact ⟨v, x, st', β', rfl, g5, g4, g1, g2, g3⟩
structure FrR (N : Nat) (β : List Nat) (env : Env) (tmps : List Value) : Prop where
 env : EnvRel β env tmps
 len : N ≤ tmps.length
theorem FrR.mono {N : Nat} {β β' : List Nat} {env : Env} {tmps : List Value} (h : FrR N β env tmps) (hp : Pre β β') : FrR N β' env tmps := ⟨h.env.mono hp, h.len⟩
def putV (tmps : List Value) (dst : Option Tmp) (v : Value) : List Value :=
 match dst with
 | some d => tmps.set d v
 | none => tmps
theorem put_tmps (tmps : List Value) (dst : Option Tmp) (v : Value) : (⟨tmps.toArray, []⟩ : Act).put dst v = ⟨(putV tmps dst v).toArray, []⟩ := by
 cases dst <;> simp [Act.put, putV]
def putE (env : Env) (dst : Option Tmp) (x : V) : Env := match dst with
 | some d => setE env d x
 | none => env
theorem FrR.put {N : Nat} {env : Env} {tmps : List Value} (h : FrR N β env tmps) {dst : Option Tmp} (hd : ∀ d, dst = some d → d < 512 ∧ d < N) {x : V} {v : Value} (hx : Den β x v) : FrR N β (putE env dst x) (putV tmps dst v) := by
 cases dst with
 | none => exact h
 | some d =>
  obtain ⟨h1, h2⟩ := hd d rfl
  exact ⟨h.env.set h1 (Nat.lt_of_lt_of_le h2 h.len) hx, by simpa [putV] using h.len⟩
end
end
end Go.Ev
