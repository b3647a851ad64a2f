/-
  topology.Format.
-/
import Derived.Test.YtdehdgbdcfkpbaaGreatDoorKW5
import Derived.Test.YtdehdgbdcfkpbaaGreatDoorKG3
namespace Go.Proofs.YtdehdgbdcfkpbaaGreatDoor
open Go Go.Pw
variable {Gl : Glob}
attribute [local irreducible] PW PWL OpP PCalls PWO
set_option maxHeartbeats 20000000
set_option maxRecDepth 100000

theorem c78i (hG : GT Gl) (n : Int) (h0 : 0 ≤ n) (h1 : n < 10000) : PFun Tryz.prog Gl 78 [.int .i64 n] fun r => r = .str (dec n.toNat) := by
  have := c78 hG n.toNat (by omega)
  rw [Int.toNat_of_nonneg h0] at this
  exact this
theorem c79r (hG : GT Gl) (p : TPfx) (hp : PfxIn p) (hv : rvalid p = true) : PFun Tryz.prog Gl 79 [ePfx p] fun r => r = .str (pfxS p) :=
  c79 hG p hp (by rw [valid_eq p hp]; exact hv) (rvalid_bits hv)
theorem fLines_ne {t : Topo} : ∀ x ∈ fLines t, x.words ≠ [] := by
  intro x hx
  simp only [fLines, List.mem_append, List.mem_map, List.mem_singleton] at hx
  rcases hx with (((hx | hx) | hx) | hx) | hx
  · obtain ⟨d, _, rfl⟩ := hx; simp [ln, fDev', fDev2, fDev1, fDev0]
  · obtain ⟨d, _, rfl⟩ := hx; simp [ln, fLink']
  · obtain ⟨d, _, rfl⟩ := hx; simp [ln, fEdge', fEdge0]
  · obtain ⟨d, _, rfl⟩ := hx; simp [ln, fPool']
  · subst hx; simp [ln, fTol']
theorem c34 (hG : GT Gl) (t : Topo) (hin : TIn t) : PFun Tryz.prog Gl 34 [eTopo t] fun r => r = .tup [.str (rFormat t).1, .int .i64 (rFormat t).2] := by
  refine PFun.of hT Tryz.func34 rfl fun B hD => ?_
  refine pw_norm rfl ?_
  (refine zGo ?_)
  (refine pl_op rfl (op_fun (c20 t) rfl rfl e20 zLe rfl (fun r hr => ?_)); subst hr; refine ⟨rfl, ?_⟩; (refine zNp ?_))
  (refine zGo ?_)
  refine pw_cond rfl (fun h => ?_) (fun h => ?_)
  · have h' : rValid t = false := by rw [rValid_eq t hin]; simpa using h
    have e : rFormat t = ([], 1) := by unfold rFormat; rw [h']; rfl
    rw [e]
    (refine zGo ?_)
    exact ret1 _ rfl rfl rfl
  have h' : rValid t = true := by rw [rValid_eq t hin]; simpa using h
  clear h
  have e : rFormat t = (textS (fLines t), 0) := by unfold rFormat; rw [h']; rfl
  rw [e]
  clear e
  have hv := rValid_rv h'
  clear h'
  have hd2 := hv.d2
  have hl2 := hv.l2
  have he2 := hv.e2
  have hp2 := hv.p2
  have k1 : (lDevs t).length ≤ 12 := by simp [lDevs]; omega
  have k2 : (lDevs t ++ lLinks t).length ≤ 36 := by simp [lDevs, lLinks]; omega
  have k3 : ((lDevs t ++ lLinks t) ++ lEdges t).length ≤ 48 := by simp [lDevs, lLinks, lEdges]; omega
  have k4 : (((lDevs t ++ lLinks t) ++ lEdges t) ++ lPools t).length ≤ 56 := by simp [lDevs, lLinks, lEdges, lPools]; omega
  (refine zGo ?_)
  refine pw_ghost 2 ?_
  refine pw_norm rfl ?_
  refine pw_for hD (fun a : Nat × List TLine × Nat => [(24, .int .i64 a.1)]) (fun a => [.box (eTopo t).cells, .box [.msl 2 2 0 (a.2.1.map eLine).length a.2.2], .arr 2 (a.2.1.map eLine) a.2.2]) (fun a => a.1 ≤ t.devs.length ∧ a.2.1 ++ (t.devs.drop a.1).map (fun d => ln (fDev' d)) = lDevs t) (fun a => t.devs.length - a.1) (0, [], 0) ⟨Nat.zero_le _, rfl⟩ 3 rfl (fun _ => rfl) ⟨.inl rfl, .inr (.inr ⟨_, _, rfl, rfl, .inr (.inr (.inr (.inl ⟨rfl, _, _, rfl⟩))), trivial⟩), .inl rfl, trivial⟩ (fun _ => rfl) (fun _ => rfl) (by (exact zLe)) ?_
  rintro ⟨i, out, cap⟩ ⟨hi, hw⟩
  dsimp only at hi hw ⊢
  have ho := out_len hw
  (refine zGo ?_)
  refine pw_cond rfl (fun h => ?_) (fun h => ?_)
  · simp only [decide_eq_true_eq, List.length_map] at h
    have hlt : i < t.devs.length := by omega
    have hp : (t.devs.map eDev)[i]? = some (eDev t.devs[i]) := by simp [hlt]
    have hm := hv.dev (List.getElem_mem hlt)
    have hw2 := sel_drop (fun d => ln (fDev' d)) t.devs i hlt out _ hw
    generalize t.devs[i] = d at hp hm hw2
    (refine zGo ?_)
    (refine pl_op rfl (op_of (v_index (p := eDev d) hT rfl rfl rfl rfl (by omega) (hp) rfl) ?_); (refine zNp ?_))
    (refine zGo ?_)
    refine pw_draw [(0, true), (1, true), (2, true), (3, true), (4, false), (5, false), (6, true)] hmix (by decide +kernel) ?_
    (refine zDgo ?_)
    (refine po_step rfl rfl (op_fun (c78i hG d.cap hm.2.1.1 (by have := hm.2.1.2; omega)) rfl rfl e78 zLe rfl (fun r hr => ?_)); subst hr; refine ⟨rfl, zLok, ?_⟩; refine zDn ?_)
    (refine zDgo ?_)
    (refine po_step rfl rfl (op_litm hT rfl rfl rfl rfl rfl (by decide) rfl rfl rfl rfl ⟨zLok, ?_⟩); refine zDn ?_)
    (refine zDgo ?_)
    (refine zGo ?_)
    refine pw_joinX hD (fun x : List Str × Nat => x.1 = fDev1 d ∧ x.1.length ≤ 5) (fun x => [(8, .msl 1 4 0 (x.1.map PV.str).length x.2), (33, .any)]) (fun x => [.box (eTopo t).cells, .box [.msl 2 2 0 (out.map eLine).length cap], .arr 2 (out.map eLine) cap, .box (eDev d).cells, .arr 1 (x.1.map PV.str) x.2]) 5 rfl (fun _ => rfl) (fun _ => rfl) (fun _ => rfl) ?_ ?_
    · refine pw_cond rfl (fun h1 => ?_) (fun h1 => ?_)
      · (refine zGo ?_)
        (refine pl_append (b := 16) hT hD rfl rfl rfl rfl rfl rfl rfl rfl (.inl (Nat.zero_lt_succ _)) rfl rfl (Nat.le_of_ble_eq_true rfl) (fun cap1 _ hcap => ?_); (refine zNp ?_))
        (refine zGo ?_)
        refine ⟨(fDev0 d ++ [sRanges], cap1), ⟨?_, Nat.le_of_ble_eq_true rfl⟩, by (exact zLe), by (exact zLes)⟩
        rw [fDev1, h1]; rfl
      · (refine zGo ?_)
        refine ⟨(fDev0 d, 4), ⟨?_, Nat.le_of_ble_eq_true rfl⟩, by (exact zLe), by (exact zLes)⟩
        rw [fDev1, h1]; rfl
    rintro ⟨ws, c1⟩ ⟨hws, hwl⟩
    dsimp only at hws hwl ⊢
    (refine zGo ?_)
    refine pw_joinX hD (fun x : List Str × Nat => x.1 = fDev2 d ∧ x.1.length ≤ 6) (fun x => [(8, .msl 1 4 0 (x.1.map PV.str).length x.2)]) (fun x => [.box (eTopo t).cells, .box [.msl 2 2 0 (out.map eLine).length cap], .arr 2 (out.map eLine) cap, .box (eDev d).cells, .arr 1 (x.1.map PV.str) x.2]) 5 rfl (fun _ => rfl) (fun _ => rfl) (fun _ => rfl) ?_ ?_
    · refine pw_cond rfl (fun h1 => ?_) (fun h1 => ?_)
      · (refine zGo ?_)
        (refine pl_append (b := 16) hT hD rfl rfl rfl rfl rfl rfl rfl rfl (.inl (Nat.zero_lt_succ _)) rfl rfl (by simp; omega) (fun cap1 _ hcap => ?_); (refine zNp ?_))
        (refine zGo ?_)
        refine ⟨(ws ++ [sVol], cap1), ⟨?_, by simp; omega⟩, ?_, ?_⟩
        · rw [fDev2, h1, hws]; rfl
        · simp only [List.map_append, List.length_append]
          (exact zLe)
        · simp only [List.map_append]
          (exact zLes)
      · (refine zGo ?_)
        refine ⟨(ws, c1), ⟨?_, by show ws.length ≤ 6; omega⟩, by (exact zLe), by (exact zLes)⟩
        rw [fDev2, h1, hws]; simp
    clear hws hwl
    rintro ⟨ws, c1⟩ ⟨hws, hwl⟩
    dsimp only at hws hwl ⊢
    (refine zGo ?_)
    refine pw_joinX hD (fun x : List Str × Nat => x.1 = fDev' d ∧ x.1.length ≤ 8) (fun x => [(8, .msl 1 4 0 (x.1.map PV.str).length x.2)]) (fun x => [.box (eTopo t).cells, .box [.msl 2 2 0 (out.map eLine).length cap], .arr 2 (out.map eLine) cap, .box (eDev d).cells, .arr 1 (x.1.map PV.str) x.2]) 5 rfl (fun _ => rfl) (fun _ => rfl) (fun _ => rfl) ?_ ?_
    · refine pw_cond rfl (fun h1 => ?_) (fun h1 => ?_)
      · (refine zGo ?_)
        (refine pl_append (b := 16) hT hD rfl rfl rfl rfl rfl rfl rfl rfl (.inl (Nat.zero_lt_succ _)) rfl rfl (by simp; omega) (fun cap1 _ hcap => ?_); (refine zNp ?_))
        (refine zGo ?_)
        refine ⟨(ws ++ [sClass, d.cls], cap1), ⟨?_, by simp; omega⟩, ?_, ?_⟩
        · have h1' : (d.cls == []) = false := by simpa using h1
          rw [fDev', h1', hws]; rfl
        · simp only [List.map_append, List.length_append]
          (exact zLe)
        · simp only [List.map_append]
          (exact zLes)
      · (refine zGo ?_)
        refine ⟨(ws, c1), ⟨?_, by show ws.length ≤ 8; omega⟩, by (exact zLe), by (exact zLes)⟩
        have h1' : (d.cls == []) = true := by simpa using h1
        rw [fDev', h1', hws]; simp
    clear hws hwl
    rintro ⟨ws, c1⟩ ⟨hws, hwl⟩
    dsimp only at hws hwl ⊢
    refine pw_frz1 4 8 rfl rfl rfl ?_
    refine pw_norm rfl ?_
    (refine zGo ?_)
    (refine pl_op rfl (op_callA [1, 2] rfl rfl e77 (by decide) rfl rfl rfl zLe zLes (c77 ws out cap (by omega)) (fun r s hq => ?_)); obtain ⟨rfl, cap', rfl⟩ := hq; refine ⟨rfl, rfl, ?_⟩; (refine zNp ?_))
    refine pl_nil ?_
    (refine pw_mv 2 6 hD rfl rfl rfl rfl rfl ?_; refine pw_norm rfl ?_)
    (refine zGo ?_)
    refine ⟨(i + 1, out ++ [ln ws], cap'), ⟨hlt, by rw [hws]; exact hw2⟩, by show _ - (i + 1) < _ - i; omega, ?_, ?_⟩
    · (exact zLe)
    · (exact zLes)
  simp only [decide_eq_false_iff_not, List.length_map] at h
  have hout := out_end hw (by omega)
  subst hout
  clear hw ho h hi
  (refine zGo ?_)
  refine pw_for hD (fun a : Nat × List TLine × Nat => [(59, .int .i64 a.1)]) (fun a => [.box (eTopo t).cells, .box [.msl 2 2 0 (a.2.1.map eLine).length a.2.2], .arr 2 (a.2.1.map eLine) a.2.2]) (fun a => a.1 ≤ t.links.length ∧ a.2.1 ++ (t.links.drop a.1).map (fun l => ln (fLink' t l)) = lDevs t ++ lLinks t) (fun a => t.links.length - a.1) (0, lDevs t, cap) ⟨Nat.zero_le _, rfl⟩ 3 rfl (fun _ => rfl) (by (exact zLes)) (fun _ => rfl) (fun _ => rfl) (by (exact zLe)) ?_
  clear cap
  rintro ⟨i, out, cap⟩ ⟨hi, hw⟩
  dsimp only at hi hw ⊢
  have ho := out_len hw
  (refine zGo ?_)
  refine pw_cond rfl (fun h => ?_) (fun h => ?_)
  · simp only [decide_eq_true_eq, List.length_map] at h
    have hlt : i < t.links.length := by omega
    have hp : (t.links.map eLink)[i]? = some (eLink t.links[i]) := by simp [hlt]
    have hm := hv.link _ (List.getElem_mem hlt)
    have hw2 := sel_drop (fun l => ln (fLink' t l)) t.links i hlt out _ hw
    generalize t.links[i] = x at hp hm hw2
    obtain ⟨a, b, c⟩ := x
    dsimp only at hm
    obtain ⟨na, rfl⟩ : ∃ n : Nat, a = (n : Int) := ⟨a.toNat, by omega⟩
    obtain ⟨nb, rfl⟩ : ∃ n : Nat, b = (n : Int) := ⟨b.toNat, by omega⟩
    have ea := dev_at (t := t) (i := na) (by omega)
    have eb := dev_at (t := t) (i := nb) (by omega)
    have hna : fLink' t ⟨na, nb, c⟩ = [kLink, (t.devs.getD na dev0).name, (t.devs.getD nb dev0).name, kCost, dec c.toNat] := rfl
    rw [hna] at hw2
    clear hna
    generalize t.devs.getD na dev0 = da at ea hw2
    generalize t.devs.getD nb dev0 = db at eb hw2
    (refine zGo ?_)
    (refine pl_op rfl (op_of (v_index (p := eLink ⟨na, nb, c⟩) hT rfl rfl rfl rfl (by omega) (hp) rfl) ?_); (refine zNp ?_))
    (refine zGo ?_)
    refine pw_draw [(0, true), (1, true), (2, true), (3, true), (4, true), (5, true), (6, true), (7, true), (8, true), (9, true), (10, true), (11, true), (12, true), (13, true), (14, true), (15, true), (16, true), (17, false), (18, true), (19, false)] hmix (by decide +kernel) ?_
    (refine zDgo ?_)
    (refine po_val rfl rfl (v_index (p := eDev da) hT rfl rfl rfl rfl (Int.natCast_nonneg _) ea rfl) ?_; refine zDn ?_)
    (refine zDgo ?_)
    (refine po_val rfl rfl (v_index (p := eDev db) hT rfl rfl rfl rfl (Int.natCast_nonneg _) eb rfl) ?_; refine zDn ?_)
    (refine zDgo ?_)
    (refine po_step rfl rfl (op_fun (c78i hG c (by omega) (by omega)) rfl rfl e78 zLe rfl (fun r hr => ?_)); subst hr; refine ⟨rfl, zLok, ?_⟩; refine zDn ?_)
    (refine zDgo ?_)
    (refine po_make rfl rfl (fun st' K hK => op_litF hT rfl rfl rfl rfl rfl (by decide) rfl rfl rfl rfl hK) ?_; refine zDn ?_)
    (refine zDgo ?_)
    (refine po_step rfl rfl (op_callA [1, 2] rfl rfl e77 (by decide) rfl rfl rfl zLe zLes (c77 [kLink, da.name, db.name, kCost, dec c.toNat] out cap (by omega)) (fun r s hq => ?_)); obtain ⟨rfl, cap', rfl⟩ := hq; refine ⟨rfl, rfl, zLok, ?_⟩; refine zDn ?_)
    (refine zDgo ?_)
    (refine pw_mv 2 5 hD rfl rfl rfl rfl rfl ?_; refine pw_norm rfl ?_)
    (refine zGo ?_)
    refine ⟨(i + 1, out ++ [ln [kLink, da.name, db.name, kCost, dec c.toNat]], cap'), ⟨hlt, hw2⟩, by show _ - (i + 1) < _ - i; omega, ?_, ?_⟩
    · (exact zLe)
    · (exact zLes)
  simp only [decide_eq_false_iff_not, List.length_map] at h
  have hout := out_end hw (by omega)
  subst hout
  clear hw ho h hi
  (refine zGo ?_)
  refine pw_for hD (fun a : Nat × List TLine × Nat => [(87, .int .i64 a.1)]) (fun a => [.box (eTopo t).cells, .box [.msl 2 2 0 (a.2.1.map eLine).length a.2.2], .arr 2 (a.2.1.map eLine) a.2.2]) (fun a => a.1 ≤ t.edges.length ∧ a.2.1 ++ (t.edges.drop a.1).map (fun e => ln (fEdge' t e)) = (lDevs t ++ lLinks t) ++ lEdges t) (fun a => t.edges.length - a.1) (0, lDevs t ++ lLinks t, cap) ⟨Nat.zero_le _, rfl⟩ 3 rfl (fun _ => rfl) (by (exact zLes)) (fun _ => rfl) (fun _ => rfl) (by (exact zLe)) ?_
  clear cap
  rintro ⟨i, out, cap⟩ ⟨hi, hw⟩
  dsimp only at hi hw ⊢
  have ho := out_len hw
  (refine zGo ?_)
  refine pw_cond rfl (fun h => ?_) (fun h => ?_)
  · simp only [decide_eq_true_eq, List.length_map] at h
    have hlt : i < t.edges.length := by omega
    have hp : (t.edges.map eEdge)[i]? = some (eEdge t.edges[i]) := by simp [hlt]
    have hm := hv.edge (List.getElem_mem hlt)
    have hpi := hin.edges _ (List.getElem_mem hlt)
    have hw2 := sel_drop (fun e => ln (fEdge' t e)) t.edges i hlt out _ hw
    generalize t.edges[i] = e at hp hm hw2 hpi
    obtain ⟨en, dv, zn, pf, pl⟩ := e
    dsimp only at hm hpi
    obtain ⟨_, hdv, hb1, hrv, _⟩ := hm
    have hbb := rvalid_b hrv
    obtain ⟨nd, rfl⟩ : ∃ n : Nat, dv = (n : Int) := ⟨dv.toNat, by omega⟩
    have ea := dev_at (t := t) (i := nd) (by omega)
    have hne : fEdge' t ⟨en, nd, zn, pf, pl⟩ = [kEdge, en, kAt, (t.devs.getD nd dev0).name, kZone, zn] ++ (if pl then [kSize, dec pf.bits.toNat] else [kSub, pfxS pf]) := rfl
    rw [hne] at hw2
    clear hne
    generalize t.devs.getD nd dev0 = da at ea hw2
    (refine zGo ?_)
    (refine pl_op rfl (op_of (v_index (p := eEdge ⟨en, nd, zn, pf, pl⟩) hT rfl rfl rfl rfl (by omega) (hp) rfl) ?_); (refine zNp ?_))
    (refine zGo ?_)
    (refine pl_op rfl (op_fun (c79r hG pf hpi hrv) rfl rfl e79 zLe rfl (fun r hr => ?_)); subst hr; refine ⟨rfl, ?_⟩; (refine zNp ?_))
    (refine zGo ?_)
    refine pw_joinX hD (fun x : Str × Str => [x.1, x.2] = (if pl then [kSize, dec pf.bits.toNat] else [kSub, pfxS pf])) (fun x => [(13, .str x.1), (14, .str x.2)]) (fun x => [.box (eTopo t).cells, .box [.msl 2 2 0 (out.map eLine).length cap], .arr 2 (out.map eLine) cap, .box (eEdge ⟨en, nd, zn, pf, pl⟩).cells]) 4 rfl (fun _ => rfl) (fun _ => rfl) (fun _ => rfl) ?_ ?_
    · refine pw_cond rfl (fun h1 => ?_) (fun h1 => ?_)
      · have h1' : pl = true := h1
        subst h1'
        (refine zGo ?_)
        (refine pl_op rfl (op_fun (c78i hG pf.bits hbb.1 (by omega)) rfl rfl e78 zLe rfl (fun r hr => ?_)); subst hr; refine ⟨rfl, ?_⟩; (refine zNp ?_))
        (refine zGo ?_)
        exact ⟨(kSize, dec pf.bits.toNat), rfl, by (exact zLe), by (exact zLes)⟩
      · have h1' : pl = false := h1
        subst h1'
        (refine zGo ?_)
        exact ⟨(kSub, pfxS pf), rfl, by (exact zLe), by (exact zLes)⟩
    rintro ⟨x1, x2⟩ hws
    dsimp only at hws ⊢
    rw [← hws] at hw2
    (refine zGo ?_)
    refine pw_draw [(0, true), (1, true), (2, true), (3, true), (4, true), (5, true), (6, true), (7, true), (8, true), (9, true), (10, true), (11, true), (12, true), (13, true), (14, true), (15, false)] hmix (by decide +kernel) ?_
    (refine zDgo ?_)
    (refine po_val rfl rfl (v_index (p := eDev da) hT rfl rfl rfl rfl (Int.natCast_nonneg _) ea rfl) ?_; refine zDn ?_)
    (refine zDgo ?_)
    (refine po_make rfl rfl (fun st' K hK => op_litF hT rfl rfl rfl rfl rfl (by decide) rfl rfl rfl rfl hK) ?_; refine zDn ?_)
    (refine zDgo ?_)
    (refine po_step rfl rfl (op_callA [1, 2] rfl rfl e77 (by decide) rfl rfl rfl zLe zLes (c77 [kEdge, en, kAt, da.name, kZone, zn, x1, x2] out cap (by omega)) (fun r s hq => ?_)); obtain ⟨rfl, cap', rfl⟩ := hq; refine ⟨rfl, rfl, zLok, ?_⟩; refine zDn ?_)
    (refine zDgo ?_)
    (refine pw_mv 2 5 hD rfl rfl rfl rfl rfl ?_; refine pw_norm rfl ?_)
    (refine zGo ?_)
    refine ⟨(i + 1, out ++ [ln [kEdge, en, kAt, da.name, kZone, zn, x1, x2]], cap'), ⟨hlt, hw2⟩, by show _ - (i + 1) < _ - i; omega, ?_, ?_⟩
    · (exact zLe)
    · (exact zLes)
  simp only [decide_eq_false_iff_not, List.length_map] at h
  have hout := out_end hw (by omega)
  subst hout
  clear hw ho h hi
  (refine zGo ?_)
  refine pw_for hD (fun a : Nat × List TLine × Nat => [(120, .int .i64 a.1)]) (fun a => [.box (eTopo t).cells, .box [.msl 2 2 0 (a.2.1.map eLine).length a.2.2], .arr 2 (a.2.1.map eLine) a.2.2]) (fun a => a.1 ≤ t.pools.length ∧ a.2.1 ++ (t.pools.drop a.1).map (fun p => ln (fPool' p)) = ((lDevs t ++ lLinks t) ++ lEdges t) ++ lPools t) (fun a => t.pools.length - a.1) (0, (lDevs t ++ lLinks t) ++ lEdges t, cap) ⟨Nat.zero_le _, rfl⟩ 3 rfl (fun _ => rfl) (by (exact zLes)) (fun _ => rfl) (fun _ => rfl) (by (exact zLe)) ?_
  clear cap
  rintro ⟨i, out, cap⟩ ⟨hi, hw⟩
  dsimp only at hi hw ⊢
  have ho := out_len hw
  (refine zGo ?_)
  refine pw_cond rfl (fun h => ?_) (fun h => ?_)
  · simp only [decide_eq_true_eq, List.length_map] at h
    have hlt : i < t.pools.length := by omega
    have hp : (t.pools.map ePfx)[i]? = some (ePfx t.pools[i]) := by simp [hlt]
    have hrv := hv.ptop (List.getElem_mem hlt)
    have hpi := hin.pools _ (List.getElem_mem hlt)
    have hw2 := sel_drop (fun p => ln (fPool' p)) t.pools i hlt out _ hw
    generalize t.pools[i] = p at hp hrv hw2 hpi
    (refine zGo ?_)
    (refine pl_op rfl (op_of (v_index (p := ePfx p) hT rfl rfl rfl rfl (by omega) (hp) rfl) ?_); (refine zNp ?_))
    (refine zGo ?_)
    (refine pl_op rfl (op_fun (c79r hG p hpi hrv) rfl rfl e79 zLe rfl (fun r hr => ?_)); subst hr; refine ⟨rfl, ?_⟩; (refine zNp ?_))
    (refine zGo ?_)
    (refine pl_op rfl (op_callA [1, 2] rfl rfl e77 (by decide) rfl rfl rfl zLe zLes (c77 (fPool' p) out cap (by omega)) (fun r s hq => ?_)); obtain ⟨rfl, cap', rfl⟩ := hq; refine ⟨rfl, rfl, ?_⟩; (refine zNp ?_))
    refine pl_nil ?_
    (refine pw_mv 2 5 hD rfl rfl rfl rfl rfl ?_; refine pw_norm rfl ?_)
    (refine zGo ?_)
    refine ⟨(i + 1, out ++ [ln (fPool' p)], cap'), ⟨hlt, hw2⟩, by show _ - (i + 1) < _ - i; omega, ?_, ?_⟩
    · (exact zLe)
    · (exact zLes)
  simp only [decide_eq_false_iff_not, List.length_map] at h
  have hout := out_end hw (by omega)
  subst hout
  clear hw ho h hi
  (refine zGo ?_)
  (refine pl_op rfl (op_fun (c78i hG t.tol hv.tol.1 (by have := hv.tol.2; omega)) rfl rfl e78 zLe rfl (fun r hr => ?_)); subst hr; refine ⟨rfl, ?_⟩; (refine zNp ?_))
  (refine zGo ?_)
  (refine pl_op rfl (op_callA [1, 2] rfl rfl e77 (by decide) rfl rfl rfl zLe zLes (c77 (fTol' t) ((((lDevs t ++ lLinks t) ++ lEdges t) ++ lPools t)) cap (by omega)) (fun r s hq => ?_)); obtain ⟨rfl, cap', rfl⟩ := hq; refine ⟨rfl, rfl, ?_⟩; (refine zNp ?_))
  refine pl_nil ?_
  (refine pw_mv 2 4 hD rfl rfl rfl rfl rfl ?_; refine pw_norm rfl ?_)
  (refine zGo ?_)
  have hfl := fLines_len hv
  have hfw := fLines_le hv
  have hft := textS_len _ hfw
  have hj : PFun Tryz.prog Gl 80 [.sl (((((lDevs t ++ lLinks t) ++ lEdges t) ++ lPools t) ++ [ln (fTol' t)]).map eLine)] fun r => r = .str (textS (fLines t)) := by
    rw [← fLines_eq]
    exact c80 (fLines t) (by rw [fLines_eq]; simp) (by omega) (fun x hx => ⟨fLines_ne x hx, by have := (hfw x hx).few; omega⟩) (by omega)
  (refine pl_op rfl (op_lend0 hj rfl rfl e80 ⟨.inr (.inr (.inr (.inl ⟨_, _, _, _, _, _, rfl, rfl, rfl, rfl, rfl⟩))), trivial⟩ rfl (fun r hr => ?_)); subst hr; refine ⟨rfl, ?_⟩; (refine zNp ?_))
  (refine zGo ?_)
  exact ret1 _ rfl rfl rfl
end Go.Proofs.YtdehdgbdcfkpbaaGreatDoor
