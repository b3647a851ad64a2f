/-
  The law TopologyOrder, walked.
-/
import Derived.Test.YtdehdgbdcfkpbaaGreatDoorKE9
import Derived.Test.YtdehdgbdcfkpbaaGreatDoorKG3
import Derived.Test.YtdehdgbdcfkpbaaGreatDoorKQ5
import Derived.Test.YtdehdgbdcfkpbaaGreatDoorKD3
import Derived.Test.YtdehdgbdcfkpbaaGreatDoorJPwFrz2
namespace Go.Proofs.YtdehdgbdcfkpbaaGreatDoor
open Go Go.Pw
variable {Gl : Glob}
attribute [local irreducible] PW PWL OpP PCalls PWO
set_option maxHeartbeats 20000000
set_option maxRecDepth 100000

def peq (p q : TPfx) : Bool := (p.addr == q.addr) && ((p.bits == q.bits) && true)
theorem eqP_pfx (p q : TPfx) : eqP tys 10 47 (ePfx p) (ePfx q) = some (peq p q) := rfl
theorem peq_self (p : TPfx) : peq p p = true := by simp [peq]
theorem Sel.len {α : Type} {q : α → Bool} {l a b : List α} (h : Sel q l a b) : a.length + b.length = l.length := by
  rw [← h.perm.length_eq, List.length_append]
theorem Sel.some_left {α : Type} {q : α → Bool} {l a b : List α} (h : Sel q l a b) : (∃ x ∈ l, q x = false) → 0 < b.length := by
  induction h with
  | nil => rintro ⟨x, hx, _⟩; cases hx
  | @fst l a b x h hq ih =>
    rintro ⟨y, hy, hn⟩
    rcases List.mem_append.1 hy with hy | hy
    · exact ih ⟨y, hy, hn⟩
    · rw [List.mem_singleton] at hy
      subst hy
      rw [hq] at hn; cases hn
  | @snd l a b x h ih => intro _; simp
theorem c5 (hG : GM Gl) (l : List Int) (hl : Tp l) : PFun Tryz.prog Gl 5 [.sl (l.map eInt)] fun r => r = .bool true := by
  refine PFun.of hT Tryz.func5 rfl fun B hD => ?_
  refine pw_norm rfl ?_
  (refine zGo ?_)
  (refine pl_op rfl (op_call [] rfl rfl e10 (by decide) rfl rfl rfl zLe zLes (c10 l) (fun r s hq => ?_)); obtain ⟨rfl, rfl⟩ := hq; refine ⟨rfl, rfl, ?_⟩; (refine zNp ?_))
  (refine zGo ?_)
  (refine pl_op rfl (op_call [0] rfl rfl e12 (by decide) rfl rfl rfl zLe zLes (c12 l hl 0 (Nat.zero_le _) 4 (by decide) (by decide)) (fun r s hq => ?_)); obtain ⟨j1, T, c, ⟨m, hmn, hg⟩, hj1, rfl, rfl⟩ := hq; refine ⟨rfl, rfl, ?_⟩; (refine zNp ?_))
  have hv := hg.valid
  have hin := hg.pin
  have hok : TOk T := by
    have h1 := hg.dl
    have h2 := hg.n6
    have h3 := hg.ll
    have h4 := hg.el
    have h5 := (pools_ok T.pools hg.pools).2
    exact ⟨by unfold Small; omega, by unfold Small; omega, by unfold Small; omega, by unfold Small; omega⟩
  have hr := rValid_rv hv
  have h11 : PFun Tryz.prog Gl 11 [eTopo T] fun r => r = .tup [.str (textS (fLines T)), .int .i64 0] := by
    have := c11 (Gl := Gl) T ⟨hin.edges, hin.pools⟩
    rw [show rFormat T = (textS (fLines T), 0) by unfold rFormat; rw [hv]; rfl] at this
    exact this
  have htl := textS_len _ (fLines_le hr)
  have hfl := fLines_len hr
  have h25 : PFun Tryz.prog Gl 25 [.str (textS (fLines T))] fun r => r = .tup [.sl ((numF 0 (fLines T)).map eLine), .int .i64 0, .int .i64 0] := by
    have := c25 (Gl := Gl) (textS (fLines T))
    rw [lines_text _ (fLines_good hr) (by omega)] at this
    exact this
  have hLw : (numF 0 (fLines T)).map TLine.words = (fLines T).map TLine.words := numF_words _ _
  have hLs : ∀ x ∈ numF 0 (fLines T), 0 < x.words.length := fun x hx => by
    have : x.words ∈ (fLines T).map TLine.words := by rw [← hLw]; exact List.mem_map_of_mem hx
    obtain ⟨y, hy, e⟩ := List.mem_map.1 this
    rw [← e]; exact (fLines_good hr).some y hy
  have hLl : (numF 0 (fLines T)).length ≤ 57 := by
    have := congrArg List.length hLw
    rw [List.length_map, List.length_map] at this
    omega
  (refine zGo ?_)
  (refine pl_op rfl (op_lend0 (h11) rfl rfl e11 zLef rfl (fun r hr => ?_)); subst hr; refine ⟨rfl, ?_⟩; (refine zNp ?_))
  (refine zGo ?_)
  (refine pl_op rfl (op_fun (h25) rfl rfl e25 zLe rfl (fun r hr => ?_)); subst hr; refine ⟨rfl, ?_⟩; (refine zNp ?_))
  (refine zGo ?_)
  generalize numF 0 (fLines T) = L at hLw hLs hLl
  refine pw_freezeW (fun i => decide (3 ≤ i) && decide (i < 7)) (st' := [tape l j1, .dead, .dead, .dead, .dead, .dead, .dead, .box (eTopo T).cells]) ?_ ?_
  · exact ⟨.inr (.inl rfl), .inl rfl, .inl rfl, rfl, rfl, rfl, rfl, .inr (.inr ⟨_, _, rfl, rfl, by (repeat (first | trivial | refine ⟨.inr (.inl rfl), ?_⟩ | refine ⟨.inr (.inr (.inl ⟨rfl, rfl⟩)), ?_⟩ | refine ⟨.inr (.inr (.inr (.inl ⟨_, _, _, _, _, _, rfl, rfl, rfl, rfl, rfl⟩))), ?_⟩))⟩), trivial⟩
  refine pw_norm rfl ?_
  refine pw_ghost 2 ?_
  refine pw_ghost 2 ?_
  refine pw_norm rfl ?_
  refine pw_for hD (fun a : Nat × (List TLine × Nat) × (List TLine × Nat) × Nat => [(10, .msl 2 8 0 (a.2.1.1.map eLine).length a.2.1.2), (11, .msl 2 9 0 (a.2.2.1.1.map eLine).length a.2.2.1.2), (12, .int .i64 a.1)])
    (fun a => [tape l a.2.2.2, .dead, .dead, .dead, .dead, .dead, .dead, .box (eTopo T).cells, .arr 2 (a.2.1.1.map eLine) a.2.1.2, .arr 2 (a.2.2.1.1.map eLine) a.2.2.1.2])
    (fun a => a.1 ≤ L.length ∧ a.2.2.2 ≤ l.length ∧ Sel isPT ((L.take a.1).map TLine.words) (a.2.1.1.map TLine.words) (a.2.2.1.1.map TLine.words)) (fun a => L.length - a.1) (0, ([], 0), ([], 0), j1) ⟨Nat.zero_le _, hj1, .nil⟩ 10 rfl (fun _ => rfl) (by (exact zLes)) (fun _ => rfl) (fun _ => rfl) (by (exact zLe)) ?_
  rintro ⟨i, ⟨fi, c1⟩, ⟨re, c2⟩, j⟩ ⟨hi, hj, hs⟩
  dsimp only at hi hj hs ⊢
  have hlen := hs.len
  rw [List.length_map, List.length_map, List.length_map, List.length_take] at hlen
  (refine zGo ?_)
  refine pw_cond rfl (fun h => ?_) (fun h => ?_)
  · simp only [decide_eq_true_eq, List.length_map] at h
    have hlt : i < L.length := by omega
    have hp : (L.map eLine)[i]? = some (eLine L[i]) := by simp [hlt]
    have hx := hLs _ (List.getElem_mem hlt)
    have htk : (L.take (i + 1)).map TLine.words = (L.take i).map TLine.words ++ [L[i].words] := by rw [List.take_succ_eq_append_getElem hlt, List.map_append]; rfl
    generalize L[i] = x at hp hx htk
    (refine zGo ?_)
    (refine pl_op rfl (op_of (v_index (p := eLine x) hT rfl rfl rfl rfl (by omega) (hp) rfl) ?_); (refine zNp ?_))
    (refine zGo ?_)
    (refine pl_op rfl (op_of (v_index (p := .str (x.words.getD 0 [])) hT rfl rfl rfl rfl (by omega) (str_at x.words 0 hx) rfl) ?_); (refine zNp ?_))
    (refine zGo ?_)
    (refine pl_or 3 50 53 (x.words.getD 0 [] == kTol) rfl rfl rfl (fun hb => ?_) (fun hb => ?_) ?_; (focus ((refine zNp ?_); (refine zGo ?_); exact ⟨by (exact zLe), StLe.refl _⟩)); (focus ((refine zNp ?_); (refine zGo ?_); exact ⟨by (exact zLe), StLe.refl _⟩)); (refine zNp ?_); (refine zGo ?_))
    refine pl_split 54 rfl (fun hq => ?_) (fun hq => ?_)
    · have hq' : isPT x.words = true := hq
      (refine zGo ?_)
      (refine pl_on rfl rfl (op_call [0] rfl rfl e13 (by decide) rfl rfl rfl zLe zLes (c13n l hl j hj 3 (by decide) (by decide)) (fun r s hq => ?_)); obtain ⟨j2, ⟨k2, hk2, rfl⟩, hj2, rfl⟩ := hq; refine ⟨rfl, rfl, ?_⟩; (refine zNp ?_))
      (refine zGo ?_)
      refine pw_cond rfl (fun h2 => ?_) (fun h2 => ?_)
      · (refine zGo ?_)
        (refine pl_op rfl (op_of (v_index (p := eLine x) hT rfl rfl rfl rfl (by omega) (hp) rfl) ?_); (refine zNp ?_))
        (refine zGo ?_)
        (refine pl_append (b := 32) hT hD rfl rfl rfl rfl rfl rfl rfl rfl (.inl (Nat.zero_lt_succ _)) rfl rfl (by simp; omega) (fun cap' _ hcap => ?_); (refine zNp ?_))
        (refine zGo ?_)
        refine ⟨(i + 1, (fi ++ [x], cap'), (re, c2), j2), ⟨hlt, hj2, ?_⟩, by show _ - (i + 1) < _ - i; omega, ?_, ?_⟩
        · rw [htk, List.map_append]; exact .fst _ hs hq'
        · simp only [List.map_append, List.length_append]
          (exact zLe)
        · simp only [List.map_append]
          (exact zLes)
      · (refine zGo ?_)
        (refine pl_op rfl (op_of (v_index (p := eLine x) hT rfl rfl rfl rfl (by omega) (hp) rfl) ?_); (refine zNp ?_))
        (refine zGo ?_)
        (refine pl_append (b := 32) hT hD rfl rfl rfl rfl rfl rfl rfl rfl (.inl (Nat.zero_lt_succ _)) rfl rfl (by simp; omega) (fun cap' _ hcap => ?_); (refine zNp ?_))
        (refine zGo ?_)
        refine ⟨(i + 1, (fi, c1), (re ++ [x], cap'), j2), ⟨hlt, hj2, ?_⟩, by show _ - (i + 1) < _ - i; omega, ?_, ?_⟩
        · rw [htk, List.map_append]; exact .snd _ hs
        · simp only [List.map_append, List.length_append]
          (exact zLe)
        · simp only [List.map_append]
          (exact zLes)
    · (refine zGo ?_)
      (refine pl_op rfl (op_of (v_index (p := eLine x) hT rfl rfl rfl rfl (by omega) (hp) rfl) ?_); (refine zNp ?_))
      (refine zGo ?_)
      (refine pl_append (b := 32) hT hD rfl rfl rfl rfl rfl rfl rfl rfl (.inl (Nat.zero_lt_succ _)) rfl rfl (by simp; omega) (fun cap' _ hcap => ?_); (refine zNp ?_))
      (refine zGo ?_)
      refine ⟨(i + 1, (fi, c1), (re ++ [x], cap'), j), ⟨hlt, hj, ?_⟩, by show _ - (i + 1) < _ - i; omega, ?_, ?_⟩
      · rw [htk, List.map_append]; exact .snd _ hs
      · simp only [List.map_append, List.length_append]
        (exact zLe)
      · simp only [List.map_append]
        (exact zLes)
  simp only [decide_eq_false_iff_not, List.length_map] at h
  rw [List.take_of_length_le (by omega), hLw] at hs
  obtain ⟨ps, hperm, hpar⟩ := tParse_order hv hin hs
  have hvy := valid_pools hv hin hperm
  have hTl : T.pools.length ≤ 8 := hr.p2
  have hPl : ps.length ≤ 8 := by rw [hperm.length_eq]; exact hr.p2
  have hpos : 0 < (re.map eLine).length := by
    have := hs.some_left ⟨(ln (fDev' (T.devs.getD 0 dev0))).words, ?_, fDev_pt _⟩
    · simpa using this
    · have h1 := hr.d1
      refine List.mem_map_of_mem ?_
      simp only [fLines, List.mem_append, List.mem_map]
      exact .inl (.inl (.inl (.inl ⟨T.devs.getD 0 dev0, getD_mem (by omega), rfl⟩)))
  have hpy : ∀ p ∈ ps, PfxIn p := fun p hp => hin.pools p (hperm.mem_iff.1 hp)
  have h26 : PFun Tryz.prog Gl 26 [.str (textS (fi ++ re))] fun r => r = .tup [eTopo ⟨T.devs, T.links, T.edges, ps, T.tol⟩, .int .i64 0, .int .i64 0] := by
    have := c26 (Gl := Gl) hG (textS (fi ++ re)) (lines_ok _)
    rw [hpar] at this
    exact this
  have h20 : PFun Tryz.prog Gl 20 [eTopo ⟨T.devs, T.links, T.edges, ps, T.tol⟩] fun r => r = .bool true := by
    have := c20 (Gl := Gl) ⟨T.devs, T.links, T.edges, ps, T.tol⟩
    rw [show tValid ⟨T.devs, T.links, T.edges, ps, T.tol⟩ = true by rw [← rValid_eq ⟨T.devs, T.links, T.edges, ps, T.tol⟩ ⟨hin.edges, hpy⟩]; exact hvy] at this
    exact this
  have hmem : ∀ x ∈ fi ++ re, WLe x.words := fun x hx => by
    have : x.words ∈ (fLines T).map TLine.words := hs.mem _ (by rw [← List.map_append]; exact List.mem_map_of_mem hx)
    obtain ⟨y, hy, e⟩ := List.mem_map.1 this
    rw [← e]; exact fLines_le hr y hy
  have hbl := textS_len (fi ++ re) hmem
  have hfr : (fi ++ re).length ≤ 57 := by rw [List.length_append]; omega
  have h27 : PFun Tryz.prog Gl 27 [.sl (fi.map eLine ++ re.map eLine)] fun r => r = .str (textS (fi ++ re)) := by
    have := c27 (Gl := Gl) (fi ++ re) (by unfold Small; omega) (fun x hx => by have := (hmem x hx).few; unfold Small; omega) (by unfold Small; omega)
    rw [List.map_append] at this
    exact this
  refine pw_frz1 9 11 rfl rfl rfl ?_
  refine pw_norm rfl ?_
  (refine zGo ?_)
  (refine pl_append (b := 32) hT hD rfl rfl rfl rfl rfl rfl rfl rfl (.inl hpos) ?_ ?_ (by simp; omega) (fun cap' _ hcap => ?_); (focus (simp only [List.all_map]; exact List.all_eq_true.2 fun _ _ => rfl)); (focus (simp only [List.all_map]; exact List.all_eq_true.2 fun _ _ => rfl)); (refine zNp ?_))
  (refine zGo ?_)
  (refine pl_op rfl (op_lend0 h27 rfl rfl e27 ⟨.inr (.inr (.inr (.inl ⟨_, _, _, _, _, _, rfl, rfl, rfl, (by simp only [List.length_append]), rfl⟩))), trivial⟩ rfl (fun r hr => ?_)); subst hr; refine ⟨rfl, ?_⟩; (refine zNp ?_))
  (refine zGo ?_)
  (refine pl_op rfl (op_fun (h26) rfl rfl e26 zLe rfl (fun r hr => ?_)); subst hr; refine ⟨rfl, ?_⟩; (refine zNp ?_))
  (refine zGo ?_)
  (refine pl_on rfl rfl (op_fun (h20) rfl rfl e20 zLe rfl (fun r hr => ?_)); subst hr; refine ⟨rfl, ?_⟩; (refine zNp ?_))
  (refine zGo ?_)
  refine pw_cond rfl (fun h2 => ?_) (fun h2 => ?_)
  · exfalso
    rw [List.length_map, List.length_map, hperm.length_eq] at h2
    simp at h2
  clear h2
  (refine zGo ?_)
  refine pw_for hD (fun i : Nat => [(17, .int .i64 i)]) (fun _ => [tape l j, .dead, .dead, .dead, .dead, .dead, .dead, .box (eTopo T).cells, .dead, .dead, .box (eTopo ⟨T.devs, T.links, T.edges, ps, T.tol⟩).cells]) (fun i => i ≤ T.pools.length) (fun i => T.pools.length - i) 0 (Nat.zero_le _) 11 rfl (fun _ => rfl) ?_ (fun _ => rfl) (fun _ => rfl) (by (exact zLe)) ?_
  · exact ⟨.inl rfl, .inl rfl, .inl rfl, .inl rfl, .inl rfl, .inl rfl, .inl rfl, .inl rfl, .inr (.inl rfl), .inl rfl, .inl rfl, trivial⟩
  clear hi
  intro i hi
  (refine zGo ?_)
  refine pw_cond rfl (fun h2 => ?_) (fun h2 => ?_)
  · simp only [decide_eq_true_eq, List.length_map] at h2
    have hlt : i < T.pools.length := by omega
    have hp : (T.pools.map ePfx)[i]? = some (ePfx T.pools[i]) := by simp [hlt]
    have hxm : T.pools[i] ∈ ps := hperm.mem_iff.2 (List.getElem_mem hlt)
    generalize T.pools[i] = x at hp hxm
    have hany : ps.any (peq x) = true := List.any_eq_true.2 ⟨x, hxm, peq_self x⟩
    (refine zGo ?_)
    refine pw_for hD (fun a : Nat × Bool => [(18, .bool a.2), (19, .int .i64 a.1)]) (fun _ => [tape l j, .dead, .dead, .dead, .dead, .dead, .dead, .box (eTopo T).cells, .dead, .dead, .box (eTopo ⟨T.devs, T.links, T.edges, ps, T.tol⟩).cells]) (fun a => a.1 ≤ ps.length ∧ (a.2 || (ps.drop a.1).any (peq x)) = true) (fun a => ps.length - a.1) (0, false) ⟨Nat.zero_le _, by simpa using hany⟩ 11 rfl (fun _ => rfl) (by (exact zLes)) (fun _ => rfl) (fun _ => rfl) (by (exact zLe)) ?_
    rintro ⟨k, fd⟩ ⟨hk, hw⟩
    dsimp only at hk hw ⊢
    (refine zGo ?_)
    refine pw_cond rfl (fun h3 => ?_) (fun h3 => ?_)
    · simp only [decide_eq_true_eq, List.length_map] at h3
      have hlk : k < ps.length := by omega
      have hp2 : (ps.map ePfx)[k]? = some (ePfx ps[k]) := by simp [hlk]
      rw [List.drop_eq_getElem_cons hlk, List.any_cons, ← Bool.or_assoc] at hw
      generalize ps[k] = y at hp2 hw
      (refine zGo ?_)
      refine pw_draw [(0, true), (1, true), (2, true), (3, true), (4, true), (5, true), (6, true), (7, true), (8, true), (9, true), (10, true), (11, true), (12, true), (13, true), (14, true)] hmix (by decide +kernel) ?_
      (refine zDgo ?_)
      refine po_split 117 rfl (fun h4 => ?_) (fun h4 => ?_)
      · rw [h4] at hw
        (refine zDgo ?_)
        (refine zGo ?_)
        exact ⟨(k + 1, true), ⟨hlk, rfl⟩, by show _ - (k + 1) < _ - k; omega, by (exact zLe), by (exact zLes)⟩
      · rw [h4, Bool.false_or] at hw
        (refine zDgo ?_)
        (refine po_gval rfl rfl rfl (v_index (p := ePfx x) hT rfl rfl rfl rfl (by omega) hp rfl) ?_; refine zDn ?_)
        (refine zDgo ?_)
        (refine po_gval rfl rfl rfl (v_index (p := ePfx y) hT rfl rfl rfl rfl (by omega) hp2 rfl) ?_; refine zDn ?_)
        (refine zDgo ?_)
        (refine po_gval rfl rfl rfl (v_eqS (r := peq x y) hT rfl rfl rfl (by kernel_rfl) (eqP_pfx x y)) ?_; refine zDn ?_)
        (refine zDgo ?_)
        (refine zGo ?_)
        exact ⟨(k + 1, peq x y), ⟨hlk, hw⟩, by show _ - (k + 1) < _ - k; omega, by (exact zLe), by (exact zLes)⟩
    · simp only [decide_eq_false_iff_not, List.length_map] at h3
      rw [List.drop_eq_nil_of_le (by omega), List.any_nil, Bool.or_false] at hw
      subst hw
      (refine zGo ?_)
      exact ⟨i + 1, hlt, by omega, by (exact zLe), by (exact zLes)⟩
  · (refine zGo ?_)
    (refine pl_op rfl (op_fun (c28 T hok) rfl rfl e28 zLe rfl (fun r hr => ?_)); subst hr; refine ⟨rfl, ?_⟩; (refine zNp ?_))
    (refine zGo ?_)
    (refine pl_on rfl rfl (op_fun (c18 hG) rfl rfl e18 zLe rfl (fun r hr => ?_)); subst hr; refine ⟨rfl, ?_⟩; (refine zNp ?_))
    (refine zGo ?_)
    exact ret1 _ rfl rfl rfl
end Go.Proofs.YtdehdgbdcfkpbaaGreatDoor
