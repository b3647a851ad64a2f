/-
  The reference's Join.
  Plain laws of the lines of a topology: what a valid topology is like, the lines of its text, and how long they are.
-/
import Derived.Test.YtdehdgbdcfkpbaaGreatDoorKG1
import Derived.Test.YtdehdgbdcfkpbaaGreatDoorKE2
import Derived.Test.YtdehdgbdcfkpbaaGreatDoorKV1
import Derived.Test.YtdehdgbdcfkpbaaGreatDoorKP5
namespace Go.Proofs.YtdehdgbdcfkpbaaGreatDoor
open Go Go.Pw
variable {Gl : Glob}
attribute [local irreducible] PW PWL OpP PCalls PWO
set_option maxHeartbeats 20000000
set_option maxRecDepth 100000

theorem joinW_at (w : List Str) (k : Nat) (h : k < w.length) : joinW k (w.drop k) = (if k = 0 then [] else [32]) ++ w.getD k [] ++ joinW (k + 1) (w.drop (k + 1)) := by
  rw [List.drop_eq_getElem_cons h, List.getD, List.getElem?_eq_getElem h]
  cases k with
  | zero => simp [joinW]
  | succ k => simp [joinW]
theorem c27 (l : List TLine) (hl : Small l) (hw : ∀ x ∈ l, Small x.words) (hb : Small (textS l)) : PFun Tryz.prog Gl 27 [.sl (l.map eLine)] fun r => r = .str (textS l) := by
  refine PFun.of hT Tryz.func27 rfl fun B hD => ?_
  refine pw_norm rfl ?_
  unfold Small at hl hb
  (refine zGo ?_)
  refine pw_for hD (fun a : Nat × Str => [(3, .str a.2), (4, .int .i64 a.1)]) (fun _ => []) (fun a => a.1 ≤ l.length ∧ a.2 ++ textS (l.drop a.1) = textS l) (fun a => l.length - a.1) (0, []) ⟨Nat.zero_le _, rfl⟩ 0 rfl (fun _ => rfl) (StLe.refl _) (fun _ => rfl) (fun _ => rfl) (by (exact zLe)) ?_
  rintro ⟨i, s⟩ ⟨hi, hs⟩
  dsimp only at hi hs ⊢
  (refine zGo ?_)
  refine pw_cond rfl (fun h => ?_) (fun h => ?_)
  · simp only [decide_eq_true_eq, List.length_map] at h
    have hlt : i < l.length := by omega
    have hp : (l.map eLine)[i]? = some (eLine l[i]) := by simp [hlt]
    have hwi := hw _ (List.getElem_mem hlt)
    have hd : textS (l.drop i) = lineS (l[i]).words ++ textS (l.drop (i + 1)) := by unfold textS; rw [List.drop_eq_getElem_cons hlt, List.map_cons, List.flatten_cons]
    rw [hd, lineS] at hs
    generalize l[i] = x at hp hwi hs
    unfold Small at hwi
    (refine zGo ?_)
    refine pw_for hD (fun a : Nat × Str => [(3, .str a.2), (5, .int .i64 a.1)]) (fun _ => []) (fun a => a.1 ≤ x.words.length ∧ a.2 ++ (joinW a.1 (x.words.drop a.1) ++ [10] ++ textS (l.drop (i + 1))) = textS l) (fun a => x.words.length - a.1) (0, s) ⟨Nat.zero_le _, hs⟩ 0 rfl (fun _ => rfl) (StLe.refl _) (fun _ => rfl) (fun _ => rfl) (by (exact zLe)) ?_
    rintro ⟨k, u⟩ ⟨hk, hu⟩
    dsimp only at hk hu ⊢
    have hul : u.length ≤ (textS l).length := by rw [← hu]; simp
    (refine zGo ?_)
    (refine pl_op rfl (op_of (v_index (p := eLine x) hT rfl rfl rfl rfl (by omega) (hp) rfl) ?_); (refine zNp ?_))
    (refine zGo ?_)
    refine pw_cond rfl (fun h1 => ?_) (fun h1 => ?_)
    · simp only [decide_eq_true_eq, List.length_map] at h1
      have hlk : k < x.words.length := by omega
      rw [joinW_at x.words k hlk] at hu
      have hg := str_at x.words k hlk
      generalize x.words.getD k [] = wd at hu hg
      have hul2 : u.length + wd.length + 1 ≤ (textS l).length := by rw [← hu]; simp; omega
      (refine zGo ?_)
      refine pw_cond rfl (fun h2 => ?_) (fun h2 => ?_)
      · have hk0 : ¬ k = 0 := by simp at h2; omega
        rw [if_neg hk0] at hu
        (refine zGo ?_)
        (refine pl_op rfl (op_of (v_concat rfl rfl rfl (by (try simp); omega)) ?_); (refine zNp ?_))
        (refine zGo ?_)
        (refine pl_op rfl (op_of (v_index (p := eLine x) hT rfl rfl rfl rfl (by omega) (hp) rfl) ?_); (refine zNp ?_))
        (refine zGo ?_)
        (refine pl_op rfl (op_of (v_index (p := .str wd) hT rfl rfl rfl rfl (by omega) (hg) rfl) ?_); (refine zNp ?_))
        (refine zGo ?_)
        (refine pl_op rfl (op_of (v_concat rfl rfl rfl (by (try simp); omega)) ?_); (refine zNp ?_))
        (refine zGo ?_)
        refine ⟨(k + 1, u ++ [32] ++ wd), ⟨hlk, ?_⟩, by show _ - (k + 1) < _ - k; omega, by (exact zLe), StLe.refl _⟩
        rw [← hu]; simp
      · have hk0 : k = 0 := by simp at h2; omega
        rw [if_pos hk0] at hu
        (refine zGo ?_)
        (refine pl_op rfl (op_of (v_index (p := eLine x) hT rfl rfl rfl rfl (by omega) (hp) rfl) ?_); (refine zNp ?_))
        (refine zGo ?_)
        (refine pl_op rfl (op_of (v_index (p := .str wd) hT rfl rfl rfl rfl (by omega) (hg) rfl) ?_); (refine zNp ?_))
        (refine zGo ?_)
        (refine pl_op rfl (op_of (v_concat rfl rfl rfl (by (try simp); omega)) ?_); (refine zNp ?_))
        (refine zGo ?_)
        refine ⟨(k + 1, u ++ wd), ⟨hlk, ?_⟩, by show _ - (k + 1) < _ - k; omega, by (exact zLe), StLe.refl _⟩
        rw [← hu]; simp
    · simp only [decide_eq_false_iff_not, List.length_map] at h1
      have hke : k = x.words.length := by omega
      rw [hke, List.drop_length, show joinW x.words.length [] = [] from by cases x.words.length <;> rfl] at hu
      have hul3 : u.length + 1 ≤ (textS l).length := by
        have := congrArg List.length hu
        simp only [List.length_append, List.length_cons, List.length_nil] at this
        omega
      (refine zGo ?_)
      (refine pl_op rfl (op_of (v_concat rfl rfl rfl (by show _ + 1 ≤ _; omega)) ?_); (refine zNp ?_))
      (refine zGo ?_)
      refine ⟨(i + 1, u ++ [10]), ⟨hlt, ?_⟩, by show _ - (i + 1) < _ - i; omega, by (exact zLe), StLe.refl _⟩
      rw [← hu]; simp
  · simp only [decide_eq_false_iff_not, List.length_map] at h
    have hie : i = l.length := by omega
    have hs' : s = textS l := by rw [← hs, hie, List.drop_length]; simp [textS]
    subst hs'
    (refine zGo ?_)
    exact ret1 _ rfl rfl rfl
end Go.Proofs.YtdehdgbdcfkpbaaGreatDoor
namespace Go.Proofs.YtdehdgbdcfkpbaaGreatDoor
open Go Go.Pw

/-! ### what a valid topology is like -/
structure RV (t : Topo) : Prop where
  d1 : 1 ≤ t.devs.length
  d2 : t.devs.length ≤ 12
  l2 : t.links.length ≤ 24
  e2 : t.edges.length ≤ 12
  p2 : t.pools.length ≤ 8
  tol : 0 ≤ t.tol ∧ t.tol ≤ 2
  devI : ∀ (i : Nat) d, t.devs[i]? = some d → vname d.name = true ∧ tDevice t d.name = (i : Int) ∧ 0 ≤ d.cap ∧ d.cap ≤ 4096 ∧ (d.cls = [] ∨ vname d.cls = true)
  link : ∀ l ∈ t.links, 0 ≤ l.a ∧ l.a < l.b ∧ l.b < t.devs.length ∧ 1 ≤ l.cost ∧ l.cost ≤ 1000
  edgeI : ∀ (i : Nat) e, t.edges[i]? = some e → (vname e.name = true ∧ vname e.zone = true) ∧ tEdge t e.name = (i : Int) ∧ (0 ≤ e.dev ∧ e.dev < t.devs.length) ∧ 1 ≤ e.pfx.bits ∧ rvalid e.pfx = true ∧ (e.planned = true → e.pfx.addr = 0)
  fix : allI (rvMeet (fixed t.edges)) (fixed t.edges) = true
  pool : ∀ (i : Nat) p, t.pools[i]? = some p → rvalid p = true ∧ (t.pools.take i).any (rmeet p) = false
theorem rValid_rv {t : Topo} (h : rValid t = true) : RV t := by
  unfold rValid at h
  simp only [Bool.and_eq_true, Bool.not_eq_true'] at h
  obtain ⟨h1, h2, h3, h4, h5⟩ := h
  simp only [rvHead, Bool.or_eq_false_iff, Bool.not_eq_false', decide_eq_false_iff_not] at h1
  obtain ⟨⟨⟨⟨⟨a1, a2⟩, a3⟩, a4⟩, a5⟩, a6⟩ := h1
  simp only [rvDevs, Bool.and_eq_true, Bool.not_eq_true', Bool.or_eq_false_iff, decide_eq_false_iff_not] at a1
  obtain ⟨⟨b1, b2⟩, b3⟩ := a1
  refine ⟨by omega, by omega, by omega, by omega, by omega, by omega, fun i d hd => ?_, fun l hl => ?_, fun i e he => ?_, h4, fun i p hp => ?_⟩
  · have := allI_get b3 hd
    simp only [rvDev, Bool.not_eq_true', Bool.or_eq_false_iff, Bool.not_eq_false', bne_eq_false_iff_eq, decide_eq_false_iff_not, Bool.and_eq_false_iff] at this
    obtain ⟨⟨⟨⟨c1, c2⟩, c3⟩, c4⟩, c5⟩ := this
    refine ⟨c1, c2, by omega, by omega, ?_⟩
    rcases c5 with c5 | c5
    · exact .inl (by simpa using c5)
    · exact .inr c5
  · have := List.all_eq_true.1 h2 l hl
    simp only [rvLink, Bool.not_eq_true', Bool.or_eq_false_iff, decide_eq_false_iff_not] at this
    omega
  · have := allI_get h3 he
    simp only [rvEdgeI, rvEdge, Bool.not_eq_true', Bool.or_eq_false_iff, Bool.not_eq_false', Bool.and_eq_true, bne_eq_false_iff_eq, decide_eq_false_iff_not, Bool.or_eq_true, beq_iff_eq] at this
    obtain ⟨⟨⟨⟨⟨⟨c1, c2⟩, c3⟩, c4⟩, c5⟩, c6, c7⟩, c8⟩ := this
    refine ⟨⟨c1, c2⟩, c8, by omega, by omega, c6, fun hpl => ?_⟩
    rcases c7 with c7 | c7
    · rw [hpl] at c7; cases c7
    · exact c7
  · have := allI_get h5 hp
    simp only [rvPool, Bool.not_eq_true', Bool.or_eq_false_iff, Bool.not_eq_false'] at this
    exact this
theorem RV.dev {t : Topo} (h : RV t) {d : TDev} (hd : d ∈ t.devs) : vname d.name = true ∧ (0 ≤ d.cap ∧ d.cap ≤ 4096) ∧ (d.cls = [] ∨ vname d.cls = true) := by
  obtain ⟨i, hi⟩ := List.mem_iff_getElem?.1 hd
  obtain ⟨h1, _, h2, h3, h4⟩ := h.devI i d hi
  exact ⟨h1, ⟨h2, h3⟩, h4⟩
theorem RV.edge {t : Topo} (h : RV t) {e : TEdge} (he : e ∈ t.edges) : (vname e.name = true ∧ vname e.zone = true) ∧ (0 ≤ e.dev ∧ e.dev < t.devs.length) ∧ 1 ≤ e.pfx.bits ∧ rvalid e.pfx = true ∧ (e.planned = true → e.pfx.addr = 0) := by
  obtain ⟨i, hi⟩ := List.mem_iff_getElem?.1 he
  obtain ⟨h1, _, h2⟩ := h.edgeI i e hi
  exact ⟨h1, h2⟩
theorem RV.ptop {t : Topo} (h : RV t) {p : TPfx} (hp : p ∈ t.pools) : rvalid p = true := by
  obtain ⟨i, hi⟩ := List.mem_iff_getElem?.1 hp
  exact (h.pool i p hi).1
theorem rvalid_b {p : TPfx} (h : rvalid p = true) : 0 ≤ p.bits ∧ p.bits ≤ 32 := rvalid_bits h
theorem vname_len {s : Str} (h : vname s = true) : s.length ≤ 24 := by
  rw [vname_eq] at h
  simp only [nmHead, Bool.and_eq_true, Bool.not_eq_true', Bool.or_eq_false_iff, decide_eq_false_iff_not] at h
  have := h.1.1.2
  omega
/-! ### lines -/
def dev0 : TDev := ⟨[], 0, false, false, []⟩
def nm (t : Topo) (i : Int) : Str := (t.devs.getD i.toNat dev0).name
def fDev0 (d : TDev) : List Str := [kDev, d.name, kCap, dec d.cap.toNat]
def fDev1 (d : TDev) : List Str := fDev0 d ++ (if d.rng then [sRanges] else [])
def fDev2 (d : TDev) : List Str := fDev1 d ++ (if d.vol then [sVol] else [])
def fDev' (d : TDev) : List Str := fDev2 d ++ (if d.cls == [] then [] else [sClass, d.cls])
def fLink' (t : Topo) (l : TLink) : List Str := [kLink, nm t l.a, nm t l.b, kCost, dec l.cost.toNat]
def fEdge0 (t : Topo) (e : TEdge) : List Str := [kEdge, e.name, kAt, nm t e.dev, kZone, e.zone]
def fEdge' (t : Topo) (e : TEdge) : List Str := fEdge0 t e ++ (if e.planned then [kSize, dec e.pfx.bits.toNat] else [kSub, pfxS e.pfx])
def fPool' (p : TPfx) : List Str := [kPool, pfxS p]
def fTol' (t : Topo) : List Str := [kTol, dec t.tol.toNat]
def ln (w : List Str) : TLine := ⟨0, w⟩
def fLines (t : Topo) : List TLine := (((t.devs.map fun d => ln (fDev' d)) ++ (t.links.map fun l => ln (fLink' t l))) ++ (t.edges.map fun e => ln (fEdge' t e)) ++ (t.pools.map fun p => ln (fPool' p))) ++ [ln (fTol' t)]
def rFormat (t : Topo) : Str × Int := if rValid t then (textS (fLines t), 0) else ([], 1)
/-! ### how long they are -/
theorem pfxS_len (p : TPfx) (h : 0 ≤ p.bits ∧ p.bits ≤ 32) : (pfxS p).length ≤ 24 := by
  have h1 := addrS_len p.addr.toNat
  have h2 : (dec p.bits.toNat).length ≤ 4 := dec_small (by omega)
  simp only [pfxS, List.length_append, List.length_singleton]
  omega
structure WLe (w : List Str) : Prop where
  few : w.length ≤ 8
  each : ∀ s ∈ w, s.length ≤ 24
theorem nm_len {t : Topo} (h : RV t) (i : Int) : (nm t i).length ≤ 24 := by
  unfold nm
  rw [List.getD]
  cases hx : t.devs[i.toNat]? with
  | none => exact Nat.zero_le _
  | some d => exact vname_len (h.dev (List.mem_of_getElem? hx)).1
theorem fDev_le {t : Topo} (h : RV t) {d : TDev} (hd : d ∈ t.devs) : WLe (fDev' d) := by
  obtain ⟨h1, h2, h3⟩ := h.dev hd
  have hn := vname_len h1
  have hc : d.cls.length ≤ 24 := by
    rcases h3 with h3 | h3
    · rw [h3]; exact Nat.zero_le _
    · exact vname_len h3
  have hd4 : (dec d.cap.toNat).length ≤ 4 := dec_small (by omega)
  constructor
  · unfold fDev' fDev2 fDev1 fDev0
    cases d.rng <;> cases d.vol <;> cases (d.cls == []) <;> exact Nat.le_of_ble_eq_true rfl
  · intro s hs
    simp only [fDev', fDev2, fDev1, fDev0, List.mem_append, List.mem_cons, List.not_mem_nil, or_false] at hs
    rcases hs with ((hs | hs) | hs) | hs
    · rcases hs with rfl | rfl | rfl | rfl
      · decide
      · exact hn
      · decide
      · omega
    · split at hs
      · rw [List.mem_singleton] at hs; subst hs; decide
      · cases hs
    · split at hs
      · rw [List.mem_singleton] at hs; subst hs; decide
      · cases hs
    · split at hs
      · cases hs
      · simp only [List.mem_cons, List.not_mem_nil, or_false] at hs
        rcases hs with rfl | rfl
        · decide
        · exact hc
theorem fLink_le {t : Topo} (h : RV t) {l : TLink} (hl : l ∈ t.links) : WLe (fLink' t l) := by
  have h1 := h.link l hl
  have h4 : (dec l.cost.toNat).length ≤ 4 := dec_small (by omega)
  have ha := nm_len h l.a
  have hb := nm_len h l.b
  refine ⟨Nat.le_of_ble_eq_true rfl, fun s hs => ?_⟩
  simp only [fLink', List.mem_cons, List.not_mem_nil, or_false] at hs
  rcases hs with rfl | rfl | rfl | rfl | rfl
  · decide
  · exact ha
  · exact hb
  · decide
  · omega
theorem fEdge_le {t : Topo} (h : RV t) {e : TEdge} (he : e ∈ t.edges) : WLe (fEdge' t e) := by
  obtain ⟨⟨h1, h2⟩, h3, h4, h5, h6⟩ := h.edge he
  have hb := rvalid_b h5
  have hn := vname_len h1
  have hz := vname_len h2
  have hd := nm_len h e.dev
  have hp := pfxS_len e.pfx hb
  have h4 : (dec e.pfx.bits.toNat).length ≤ 4 := dec_small (by omega)
  constructor
  · unfold fEdge' fEdge0
    cases e.planned <;> exact Nat.le_of_ble_eq_true rfl
  · intro s hs
    simp only [fEdge', fEdge0, List.mem_append, List.mem_cons, List.not_mem_nil, or_false] at hs
    rcases hs with hs | hs
    · rcases hs with rfl | rfl | rfl | rfl | rfl | rfl
      · decide
      · exact hn
      · decide
      · exact hd
      · decide
      · exact hz
    · split at hs
      · simp only [List.mem_cons, List.not_mem_nil, or_false] at hs
        rcases hs with rfl | rfl
        · decide
        · omega
      · simp only [List.mem_cons, List.not_mem_nil, or_false] at hs
        rcases hs with rfl | rfl
        · decide
        · exact hp
theorem fPool_le {t : Topo} (h : RV t) {p : TPfx} (hp : p ∈ t.pools) : WLe (fPool' p) := by
  have h1 := pfxS_len p (rvalid_b (h.ptop hp))
  refine ⟨Nat.le_of_ble_eq_true rfl, fun s hs => ?_⟩
  simp only [fPool', List.mem_cons, List.not_mem_nil, or_false] at hs
  rcases hs with rfl | rfl
  · decide
  · exact h1
theorem fTol_le {t : Topo} (h : RV t) : WLe (fTol' t) := by
  have h1 := h.tol
  have h4 : (dec t.tol.toNat).length ≤ 4 := dec_small (by omega)
  refine ⟨Nat.le_of_ble_eq_true rfl, fun s hs => ?_⟩
  simp only [fTol', List.mem_cons, List.not_mem_nil, or_false] at hs
  rcases hs with rfl | rfl
  · decide
  · omega
theorem fLines_le {t : Topo} (h : RV t) : ∀ x ∈ fLines t, WLe x.words := by
  intro x hx
  simp only [fLines, List.mem_append, List.mem_map, List.mem_singleton] at hx
  rcases hx with (((hx | hx) | hx) | hx) | hx
  · obtain ⟨d, hd, rfl⟩ := hx; exact fDev_le h hd
  · obtain ⟨l, hl, rfl⟩ := hx; exact fLink_le h hl
  · obtain ⟨e, he, rfl⟩ := hx; exact fEdge_le h he
  · obtain ⟨p, hp, rfl⟩ := hx; exact fPool_le h hp
  · subst hx; exact fTol_le h
theorem fLines_len {t : Topo} (h : RV t) : (fLines t).length ≤ 57 := by
  have h1 := h.d2
  have h2 := h.l2
  have h3 := h.e2
  have h4 := h.p2
  simp only [fLines, List.length_append, List.length_map, List.length_singleton]
  omega
theorem joinW_len : ∀ (w : List Str) (k : Nat), (∀ s ∈ w, s.length ≤ 24) → (joinW k w).length ≤ w.length * 25
  | [], k, _ => by cases k <;> simp [joinW]
  | s :: w, k, h => by
    have h1 := h s (List.mem_cons_self ..)
    have h2 := fun j => joinW_len w j fun x hx => h x (List.mem_cons_of_mem _ hx)
    cases k with
    | zero =>
      have := h2 1
      simp only [joinW, List.length_append, List.length_cons]
      omega
    | succ k =>
      have := h2 (k + 2)
      simp only [joinW, List.length_append, List.length_cons, List.length_nil]
      omega
theorem lineS_len {w : List Str} (h : WLe w) : (lineS w).length ≤ 201 := by
  have h1 := joinW_len w 0 h.each
  have h2 := h.few
  simp only [lineS, List.length_append, List.length_cons, List.length_nil]
  omega
theorem textS_len : ∀ (l : List TLine), (∀ x ∈ l, WLe x.words) → (textS l).length ≤ l.length * 201
  | [], _ => by simp [textS]
  | x :: l, h => by
    have h1 := lineS_len (h x (List.mem_cons_self ..))
    have h2 := textS_len l fun y hy => h y (List.mem_cons_of_mem _ hy)
    have e : textS (x :: l) = lineS x.words ++ textS l := by simp [textS]
    rw [e, List.length_append, List.length_cons]
    omega
theorem rFormat_len {t : Topo} : (rFormat t).1.length ≤ 11457 := by
  unfold rFormat
  split
  · rename_i h
    have hr := rValid_rv h
    have h1 := textS_len _ (fLines_le hr)
    have h2 := fLines_len hr
    show (textS (fLines t)).length ≤ _
    omega
  · exact Nat.zero_le _
end Go.Proofs.YtdehdgbdcfkpbaaGreatDoor
