/-
 source.Join, walked at the world's level: it writes into a strings.Builder.
-/
import Derived.BigCall
import Derived.Test.YtkaobkjcjodffaaGreatDoorTK41
import Derived.Test.YtkaobkjcjodffaaGreatDoorTB8
import Derived.Test.YtkaobkjcjodffaaGreatDoorSPwApX
set_option maxHeartbeats 20000000
set_option maxRecDepth 100000
namespace Go.Proofs.YtkaobkjcjodffaaGreatDoor
open Go Go.Pw
section
open Go.RowKit
def bsOf (s : Str) : ByteArray := ⟨s.toArray⟩
theorem joinW_tail (ws : List Str) : ∀ k, joinW (k + 1) ws = Lib.joinTail [32] ws := by
 induction ws with
 | nil => intro k; rfl
 | cons w ws ih => intro k; rw [joinW, ih (k + 1)]; simp [Lib.joinTail]
theorem joinW_join : ∀ ws : List Str, Lib.join ws [32] = joinW 0 ws
 | [] => rfl
 | w :: ws => by rw [Lib.join_cons, joinW, joinW_tail ws 0]
theorem bldBelow {T e : TypeId} {B b : Nat} {bs : List Value} {W W' : World} (h : Lib.IsBuilderF T e B b bs W) (hb : Below W.heap.size W W') : Lib.IsBuilderF T e B b bs W' := by
 have hg : W.grownBy W' none := ⟨hb.os, hb.tape, hb.output, hb.size, fun k hk _ => hb.block k hk⟩
 have one : ∀ p, Lib.BuilderAtF T e B b p bs W → Lib.BuilderAtF T e B b p bs W' := by
  rintro p hp
  have hlt := hp.lt
  obtain ⟨hB, v, h1, hown, hne⟩ := hp
  exact ⟨hB, v, (hb.block b hlt).trans h1, hown.kept hg (by cases hv : v.ownBlock <;> simp), hne⟩
 exact h.elim (fun x => .inl (one _ x)) (fun x => .inr (one _ x))
theorem join_walk (bk o c : Nat) (l : List TLine) (sv : Nat → Nat × Nat × Nat) (w : World) (hN : l.length ≤ 1000)
  (h0 : ∀ (i : Nat) x, l[i]? = some x → w.cell? ⟨bk, o + i * 2, none⟩ = some (.int .i64 x.num))
  (h1 : ∀ (i : Nat) x, l[i]? = some x → w.cell? ⟨bk, o + i * 2 + 1, none⟩ = some (.slice (some ⟨(sv i).1, (sv i).2.1, none⟩) (x.words.map bsOf).length (sv i).2.2))
  (h2 : ∀ (i : Nat) x, l[i]? = some x → x.words.length ≤ (sv i).2.2 ∧ (sv i).1 < w.heap.size ∧ ∀ (j : Nat) y, (x.words.map bsOf)[j]? = some y → w.cell? ⟨(sv i).1, (sv i).2.1 + j, none⟩ = some (.string y))
  (h3 : ∀ x ∈ l, x.words.length ≤ 1000) (h4 : (textS l).length ≤ 1000000) (_hlc : l.length ≤ c) (hbk : bk < w.heap.size) :
  Calls Tryz.prog 66 #[.slice (some ⟨bk, o, none⟩) l.length c] w fun e w' => e = .returned (.string ⟨(textS l).toArray⟩) ∧ Below w.heap.size w w' := by
 have hb0 : Lib.IsBuilderF 164 5 w.heap.size w.heap.size (Lib.byteCells []) (w.alloc (.cells #[.pointer none, .slice none 0 0] 164)) := Lib.IsBuilderF.of (Lib.fresh_isBuilder 164 5 w)
 have b0 : Below w.heap.size w (w.alloc (.cells #[.pointer none, .slice none 0 0] 164)) := (Below.refl _ w).alloc (Nat.le_refl _) _
 go_enter Tryz.func66, Tryz.ntmps66
 go_wp2
 go_loopw [8] (fun v wr => ∃ i : Nat, i ≤ l.length ∧ v = .int .i64 i ∧ Lib.IsBuilderF 164 5 w.heap.size w.heap.size (Lib.byteCells (textS (l.take i))) wr ∧ Below w.heap.size w wr ∧ w.heap.size < wr.heap.size) (fun v _ => l.length - (intOf v).toNat)
 case atStart => exact ⟨0, Nat.zero_le _, rfl, hb0, b0, by simp⟩
 case round =>
  obtain ⟨i, hi, rfl, hb, hbl, hsz⟩ := hrel
  rcases Nat.lt_or_ge i l.length with hlt | hge
  ·obtain ⟨x, hx⟩ : ∃ x, l[i]? = some x := ⟨_, List.getElem?_eq_getElem hlt⟩
   obtain ⟨g1, g2, g3⟩ := h2 i x hx
   have f0 : wr.cell? ⟨bk, o + i * 2, none⟩ = some (.int .i64 x.num) := (hbl.cell hbk).trans (h0 i x hx)
   have f1 := (hbl.cell hbk).trans (h1 i x hx)
   generalize sv i = s at *
   obtain ⟨s1, s2, s3⟩ := s
   dsimp only at *
   have hxm := h3 x (List.mem_of_getElem? hx)
   have hd : textS l = textS (l.take i) ++ (joinW 0 x.words ++ [10]) ++ textS (l.drop (i + 1)) := by
    have e : l = l.take i ++ x :: l.drop (i + 1) := by
     rw [show x = l[i] from (List.getElem?_eq_some_iff.1 hx).2.symm, ← List.drop_eq_getElem_cons hlt, List.take_append_drop]
    conv => lhs; rw [e]
    simp [textS, lineS]
   have hd2 : textS (l.take (i + 1)) = textS (l.take i) ++ (joinW 0 x.words ++ [10]) := by
    rw [List.take_add_one, hx]
    simp [textS, lineS]
   have hln := congrArg List.length hd
   simp only [List.length_append, List.length_singleton] at hln
   have hj : ∀ W, Below w.heap.size w W → Calls Tryz.prog 114 #[.slice (some ⟨s1, s2, none⟩) x.words.length s3, .string ⟨#[32]⟩] W fun e w' => e = .returned (.string (bsOf (joinW 0 x.words))) ∧ Below W.heap.size W w' := by
    intro W hW
    have em : (x.words.map bsOf).map (·.data.toList) = x.words := by rw [List.map_map]; exact List.map_id _
    have := Tryz.strings_Join s1 s2 s3 (x.words.map bsOf) ⟨#[32]⟩ W (fun j y hy => (hW.cell g2).trans (g3 j y hy)) (by have := hW.size; omega) (by rw [List.length_map]; omega) (by rw [List.length_map]; exact g1) (by rw [em]; show (Lib.join x.words [32]).length ≤ _; rw [joinW_join]; omega)
    rw [em, List.length_map] at this
    refine this.mono ?_
    rintro e w' ⟨rfl, h⟩
    refine ⟨?_, h⟩
    show Ending.returned (.string ⟨(Lib.join x.words [32]).toArray⟩) = _
    rw [joinW_join]; rfl
   generalize joinW 0 x.words = js at *
   have hbA : Lib.IsBuilderF 164 5 w.heap.size w.heap.size (Lib.byteCells (textS (l.take i))) (wr.alloc (.cells #[.int .i64 x.num, .slice (some ⟨s1, s2, none⟩) x.words.length s3] 57)) := hb.alloc _
   have blA : Below w.heap.size w (wr.alloc (.cells #[.int .i64 x.num, .slice (some ⟨s1, s2, none⟩) x.words.length s3] 57)) := hbl.alloc hbl.size _
   go_wp2_with (go_at_call 114; refine (hj _ blA).mono ?_; rintro e W1 ⟨rfl, hb1⟩; refine Hid.out ?_)
   refine Lib.hid ?_
   have hbB := bldBelow hbA hb1
   have blB : Below w.heap.size w W1 := blA.trans (hb1.mono blA.size)
   have hjl : (bsOf js).size = js.length := by simp [bsOf, ByteArray.size]
   have htl : (Lib.byteCells (textS (l.take i))).length = (textS (l.take i)).length := Lib.byteCells_length _
   have hsl : (Lib.strCells (bsOf js)).length = js.length := by rw [Lib.strCells_length, hjl]
   go_wp2_with (go_at_call 113; refine (Tryz.Builder_WriteString_k w.heap.size w.heap.size _ (bsOf js) _ hbB (by omega) blB.size).mono ?_; rintro e W2 ⟨rfl, hbC, blC, _⟩; refine Hid.out ?_)
   refine Lib.hid ?_
   go_wp2_with (go_at_call 115; refine (Tryz.Builder_WriteByte_k w.heap.size w.heap.size _ 10 _ (.inr hbC) (by rw [List.length_append]; omega) (blB.trans blC).size).mono ?_; rintro e W3 ⟨rfl, hbD, blD, _⟩; refine Hid.out ?_)
   refine Lib.hid ?_
   have blE := (blB.trans blC).trans blD
   have hbE : Lib.IsBuilderF 164 5 w.heap.size w.heap.size (Lib.byteCells (textS (l.take (i + 1)))) W3 := by
    refine .inr ?_
    rw [hd2, Lib.byteCells_append, Lib.byteCells_append, ← List.append_assoc]
    exact hbD
   go_wp2
   refine ⟨⟨i + 1, hlt, by simp, hbE, blE, ?_⟩, by simp only [intOf]; omega⟩
   have z1 := hb1.size
   have z2 := blC.size
   have z3 := blD.size
   have z4 := blA.size
   have z5 : (wr.alloc (.cells #[.int .i64 x.num, .slice (some ⟨s1, s2, none⟩) x.words.length s3] 57)).heap.size = wr.heap.size + 1 := by simp
   have z6 := hbD.1
   have z7 := hbD.lt
   omega
  ·have hie : i = l.length := by omega
   subst hie
   rw [List.take_length] at hb
   go_wp2_with (go_at_call 116; refine (Tryz.Builder_String_any_k w.heap.size w.heap.size _ _ hb hbl.size).mono ?_; rintro e W5 ⟨rfl, _, b5, _⟩)
   go_ret
   exact ⟨rfl, hbl.trans b5⟩
theorem join_nil (base : Option Addr) (c : Nat) (w : World) : Calls Tryz.prog 66 #[.slice base 0 c] w fun e w' => e = .returned (.string ⟨#[]⟩) ∧ Below w.heap.size w w' := by
 have hb0 : Lib.IsBuilderF 164 5 w.heap.size w.heap.size (Lib.byteCells []) (w.alloc (.cells #[.pointer none, .slice none 0 0] 164)) := Lib.IsBuilderF.of (Lib.fresh_isBuilder 164 5 w)
 have b0 : Below w.heap.size w (w.alloc (.cells #[.pointer none, .slice none 0 0] 164)) := (Below.refl _ w).alloc (Nat.le_refl _) _
 go_enter Tryz.func66, Tryz.ntmps66
 go_wp2
 go_loopw [8] (fun v wr => v = .int .i64 0 ∧ Lib.IsBuilderF 164 5 w.heap.size w.heap.size (Lib.byteCells []) wr ∧ Below w.heap.size w wr) (fun _ _ => 0)
 case atStart => exact ⟨rfl, hb0, b0⟩
 case round =>
  obtain ⟨rfl, hb, hbl⟩ := hrel
  go_wp2_with (go_at_call 116; refine (Tryz.Builder_String_any_k w.heap.size w.heap.size _ _ hb hbl.size).mono ?_; rintro e W5 ⟨rfl, _, b5, _⟩)
  go_ret
  exact ⟨rfl, hbl.trans b5⟩
variable {Gl : Glob}
theorem den_words {A : Nat → Prop} {w : World} {ws : List Str} {v : Value} (h : Den A w [] (.sl (ws.map .str)) v) (hne : ws ≠ []) :
  ∃ b o cap, v = .slice (some ⟨b, o, none⟩) ws.length cap ∧ A b ∧ ws.length ≤ cap ∧ ∀ (j : Nat) y, ws[j]? = some y → w.cell? ⟨b, o + j, none⟩ = some (.string (bsOf y)) := by
 generalize hx : ws.map PV.str = xs at h
 have hxne : xs ≠ [] := by rintro rfl; exact hne (List.map_eq_nil_iff.1 hx)
 have key : ∀ p, Den A w [] p v → p = .sl xs → ∃ b o cap, v = .slice (some ⟨b, o, none⟩) ws.length cap ∧ A b ∧ ws.length ≤ cap ∧ ∀ (j : Nat) y, ws[j]? = some y → w.cell? ⟨b, o + j, none⟩ = some (.string (bsOf y)) := by
  intro p hp hpe
  cases hp <;> try (cases hpe; done)
  ·simp only [PV.sl.injEq] at hpe
   exact absurd hpe.symm hxne
  ·rename_i k xs' a cap f hA hlc hm hk hc hd
   simp only [PV.sl.injEq] at hpe
   subst hpe
   have hk1 : k = 1 := by
    obtain ⟨x, hx1⟩ := List.exists_mem_of_ne_nil _ hxne
    have := hk x hx1
    rw [← hx] at hx1
    obtain ⟨s, _, rfl⟩ := List.mem_map.1 hx1
    exact this.symm
   subst hk1
   obtain ⟨ha, hsp⟩ := hA hxne
   obtain ⟨ab, ao, asp⟩ := a
   dsimp only at ha hsp
   subst hsp
   refine ⟨ab, ao, cap, by rw [← hx, List.length_map], ha, by rw [← hx, List.length_map] at hlc; exact hlc, fun j y hj => ?_⟩
   have hxj : xs'[j]? = some (.str y) := by rw [← hx, List.getElem?_map, hj]; rfl
   have h1 := hc j _ 0 (.str y) hxj rfl
   have h2 := hd j _ 0 (.str y) hxj rfl
   rw [h2.lit rfl] at h1
   rw [show j * 1 + 0 = j by omega] at h1
   exact h1
 exact key _ h rfl
def svOf : Value → Nat × Nat × Nat
 | .slice (some a) _ c => (a.block, a.off, c)
 | _ => (0, 0, 0)
theorem c80 (l : List TLine) (hne : l ≠ []) (hl : l.length ≤ 1000) (hw : ∀ x ∈ l, x.words ≠ [] ∧ x.words.length ≤ 1000) (hb : (textS l).length ≤ 1000000) : PFun Tryz.prog Gl 66 [.sl (l.map eLine)] fun r => r = .str (textS l) := fun A w β vals hi har => by
 obtain ⟨v, rfl⟩ : ∃ v, vals = [v] := by
  have := har.1
  match vals, this with
  | [v], _ => exact ⟨v, rfl⟩
 have hv := har.2 0 _ _ rfl rfl
 have hxne : l.map eLine ≠ [] := fun e => hne (List.map_eq_nil_iff.1 e)
 have key : ∀ p, Den A w β p v → p = .sl (l.map eLine) → Calls Tryz.prog 66 #[v] w fun e w' => e = .returned (.string ⟨(textS l).toArray⟩) ∧ Below w.heap.size w w' := by
  intro p hp hpe
  cases hp <;> try (cases hpe; done)
  ·simp only [PV.sl.injEq] at hpe
   exact absurd hpe.symm hxne
  ·rename_i k xs' a cap f hA hlc hm hk hc hd
   simp only [PV.sl.injEq] at hpe
   subst hpe
   have hk2 : k = 2 := by
    obtain ⟨x, hx1⟩ := List.exists_mem_of_ne_nil _ hxne
    have := hk x hx1
    obtain ⟨s, _, rfl⟩ := List.mem_map.1 hx1
    exact this.symm
   subst hk2
   obtain ⟨ha, hsp⟩ := hA hxne
   obtain ⟨ab, ao, asp⟩ := a
   dsimp only at ha hsp hc
   subst hsp
   have hat : ∀ (i : Nat) x, l[i]? = some x → (l.map eLine)[i]? = some (eLine x) := fun i x hx => by rw [List.getElem?_map, hx]; rfl
   have hww : ∀ (i : Nat) x, l[i]? = some x → ∃ b o cap, f i 1 = .slice (some ⟨b, o, none⟩) x.words.length cap ∧ A b ∧ x.words.length ≤ cap ∧ ∀ (j : Nat) y, x.words[j]? = some y → w.cell? ⟨b, o + j, none⟩ = some (.string (bsOf y)) := fun i x hx =>
    den_words (hd i _ 1 (.sl (x.words.map .str)) (hat i x hx) rfl) (hw x (List.mem_of_getElem? hx)).1
   rw [List.length_map]
   refine join_walk ab ao cap l (fun i => svOf (f i 1)) w hl (fun i x hx => ?_) (fun i x hx => ?_) (fun i x hx => ?_) (fun x hx => (hw x hx).2) hb (by rw [List.length_map] at hlc; exact hlc) (hi.lt _ ha)
   ·have h1 := hc i _ 0 (.int .i64 x.num) (hat i x hx) rfl
    have h2 := hd i _ 0 (.int .i64 x.num) (hat i x hx) rfl
    rw [h2.lit rfl] at h1
    exact h1
   ·have h1 := hc i _ 1 (.sl (x.words.map .str)) (hat i x hx) rfl
    obtain ⟨b, o, c, e, _⟩ := hww i x hx
    rw [e] at h1 ⊢
    rw [List.length_map]
    exact h1
   ·obtain ⟨b, o, c, e, hAb, hle, hcell⟩ := hww i x hx
    rw [e]
    refine ⟨hle, hi.lt _ hAb, fun j y hy => ?_⟩
    rw [List.getElem?_map] at hy
    cases hj : x.words[j]? with
    | none => rw [hj] at hy; cases hy
    | some z =>
     rw [hj] at hy
     cases hy
     exact hcell j z hj
 refine (key _ hv rfl).mono ?_
 rintro e w' ⟨rfl, hbl⟩
 obtain ⟨h1, h2⟩ := hi.below hbl
 exact ⟨.str (textS l), _, [], A, β, rfl, ⟨rfl, rfl⟩, den_lit (.str (textS l)) rfl, h1⟩
theorem c80g (l : List TLine) (hl : l.length ≤ 1000) (hw : ∀ x ∈ l, x.words ≠ [] ∧ x.words.length ≤ 1000) (hb : (textS l).length ≤ 1000000) : PFun Tryz.prog Gl 66 [.sl (l.map eLine)] fun r => r = .str (textS l) := by
 by_cases hne : l = []
 ·subst hne
  intro A w β vals hi har
  obtain ⟨v, rfl⟩ : ∃ v, vals = [v] := by
   have := har.1
   match vals, this with
   | [v], _ => exact ⟨v, rfl⟩
  have hv := har.2 0 _ _ rfl rfl
  have hk : Calls Tryz.prog 66 #[v] w fun e w' => e = .returned (.string ⟨#[]⟩) ∧ Below w.heap.size w w' := by
   have key : ∀ p, Den A w β p v → p = .sl [] → ∃ base c, v = .slice base 0 c := by
    intro p hp hpe
    cases hp <;> try (cases hpe; done)
    ·exact ⟨_, _, rfl⟩
    ·rename_i k xs' a cap f hA hlc hm hk hc hd
     simp only [PV.sl.injEq] at hpe
     subst hpe
     exact ⟨_, _, rfl⟩
   obtain ⟨base, c, rfl⟩ := key _ hv rfl
   exact join_nil base c w
  refine hk.mono ?_
  rintro e w' ⟨rfl, hbl⟩
  obtain ⟨h1, h2⟩ := hi.below hbl
  exact ⟨.str (textS []), _, [], A, β, rfl, ⟨rfl, rfl⟩, den_lit (.str (textS [])) rfl, h1⟩
 ·exact c80 l hne hl hw hb
end
section
open Go.RowKit
variable {Gl : Glob}
attribute [local irreducible] PW PWL OpP PCalls PWO PWT bothT
theorem c_itoa (hG : GT Gl) (n : Int) (h : 0 ≤ n ∧ n < 10000000) : PFun Tryz.prog Gl 64 [.int .i64 n] fun r => r = .str (dec n.toNat) := by
 obtain ⟨h0, h1⟩ := h
 obtain ⟨m, rfl⟩ : ∃ m : Nat, n = (m : Int) := ⟨n.toNat, by omega⟩
 refine PFun.lib rfl fun w hw => ?_
 refine (Tryz.strconv_Itoa m (by omega) (by omega) w (hG w hw)).mono ?_
 rintro e w' ⟨rfl, k, os, rfl⟩
 exact ⟨.str (dec m), by rw [itoa_nat]; rfl, rfl, rfl, Lib.below_grow _ _ (Nat.le_refl _) _ _⟩
instance iItoa (n : Int) : ConF Tryz.prog Gl 64 [.int .i64 n] (GT Gl ∧ 0 ≤ n ∧ n < 10000000) (.str (dec n.toNat)) := ⟨e64, fun h => c_itoa h.1 n h.2⟩
theorem c_pfaddr (hG : GT Gl) (a : Int) (h : 0 ≤ a ∧ a < 4294967296) : PFun Tryz.prog Gl 63 [.int .u32 a] fun r => r = .str (addrS a.toNat) := by
 have := c112 hG a.toNat (by omega)
 rwa [Int.toNat_of_nonneg h.1] at this
instance iPFAddr (a : Int) : ConF Tryz.prog Gl 63 [.int .u32 a] (GT Gl ∧ 0 ≤ a ∧ a < 4294967296) (.str (addrS a.toNat)) := ⟨e63, fun h => c_pfaddr h.1 a h.2⟩
instance iPFPfx (p : TPfx) : ConF Tryz.prog Gl 108 [.agg [.int .u32 p.addr, .int .i64 p.bits]] (GT Gl ∧ PfxIn p ∧ rvalid p = true) (.str (pfxS p)) := ⟨e108, fun h => c79 h.1 p h.2.1 (by rw [valid_eq p h.2.1]; exact h.2.2) (rvalid_b h.2.2)⟩
theorem c_ports2 (hG : GT Gl) (r : TRng) (h : PIn2 r) : PFun Tryz.prog Gl 65 [eRng r] fun x => x = .str (spanS r) := by
 (refine PFun.of hT Tryz.func65 rfl fun B hD => ?_; refine pw_norm rfl ?_)
 obtain ⟨a, b, c, d⟩ := h
 have l1 := dec5 b
 have l2 := dec5 d
 unfold spanS
 (repeat' (first | (refine zDr [[0,1,2,5,6,7],[3],[4],[8],[9,10]] ?_; refine zDn ?_) | refine zS ?_ | refine zD ?_ | refine po_both ?_ ?_ | refine pwt_both ?_ ?_ | refine pwt_fork ?_ | refine pwt_lin ?_ | (refine po_test rfl rfl rfl rfl zB ?_ ?_ <;> intro hb <;> first | exact zX | refine zDn ?_) | (refine zT ?_ ?_ <;> intro h <;> first | exact zX | refine zNq ?_)))
 ·rw [if_pos h]; exact ret2 _ rfl rfl rfl
 ·rw [if_neg h]; exact ret2 _ rfl rfl rfl
instance iPorts2 (r : TRng) : ConF Tryz.prog Gl 65 [.agg [.int .u32 r.lo, .int .u32 r.hi]] (GT Gl ∧ PIn2 r) (.str (spanS r)) := ⟨e65, fun h => c_ports2 h.1 r h.2⟩
def kindS (g : Bool) : Str := if g then [103, 114, 111, 117, 112] else [115, 101, 114, 118, 105, 99, 101]
theorem c_item2 (hG : GT Gl) (x : TItem) (g : Bool) (hx : FItem x) : PFun Tryz.prog Gl 60 [eItem x, .str (kindS g)] fun r => r = .sl ((itemW x g).map .str) := by
 (refine PFun.of hT Tryz.func60 rfl fun B hD => ?_; refine pw_norm rfl ?_)
 have hx3 := hx.ports
 have hx4 := hx.proto
 have hz : x.kind = 4 → ¬ (x.proto = 6 ∨ x.proto = 17) ∨ PIn2 x.ports := fun q => by
  by_cases q2 : x.proto = 6 ∨ x.proto = 17
  ·exact .inr (hx3 q q2)
  ·exact .inl q2
 have hq : x.kind = 1 ∨ (x.kind = 2 ∧ PfxIn x.pfx ∧ rvalid x.pfx = true) ∨ x.kind = 3 ∨ (x.kind = 4 ∧ PIn2 x.ports ∧ 0 ≤ x.proto ∧ x.proto ≤ 255) ∨ (x.kind = 4 ∧ ¬ (x.proto = 6 ∨ x.proto = 17) ∧ 0 ≤ x.proto ∧ x.proto ≤ 255) := by
  rcases hx.kind with q | q | q | q
  ·exact .inl q
  ·exact .inr (.inl ⟨q, hx.pfx q⟩)
  ·exact .inr (.inr (.inl q))
  ·rcases hz q with z | z
   ·exact .inr (.inr (.inr (.inr ⟨q, z, hx4 q⟩)))
   ·exact .inr (.inr (.inr (.inl ⟨q, z, hx4 q⟩)))
 clear hz hx3 hx4
 have hw : ∃ W, W = itemW x g := ⟨_, rfl⟩
 obtain ⟨W, hw⟩ := hw
 rw [← hw]
 unfold itemW at hw
 unfold kindS
 rcases hq with q | ⟨q, q1, q2⟩ | q | ⟨q, q1, q2, q3⟩ | ⟨q, q1, q2, q3⟩
 all_goals
  (repeat' (first | refine zS ?_ | (refine zT ?_ ?_ <;> intro h <;> first | exact zX | refine zNq ?_)))
 all_goals
  refine ret2 _ rfl ?_ rfl
  rw [hw]
  clear hw
  cases g <;> simp [*]
end
section
variable {Gl : Glob}
attribute [local irreducible] PW PWL OpP PCalls PWO PWT bothT
theorem c_statement2 (hG : GT Gl) (s : TStm) (h : 0 ≤ s.prio ∧ s.prio < 10000000) : PFun Tryz.prog Gl 62 [eStm s] fun r => r = .sl ((stmW s).map .str) := by
 (refine PFun.of hT Tryz.func62 rfl fun B hD => ?_; refine pw_norm rfl ?_)
 refine zSm ?_
 (refine pl_op rfl (op_litm hT rfl rfl rfl rfl rfl (by decide) rfl rfl rfl rfl ?_); (refine zNp ?_))
 (try refine zS ?_)
 refine zNq ?_
 refine pw_joinX hD (fun _ : Unit => True) (fun _ => [(6, .any)]) (fun _ => [.box (stmP s), .arr 1 [.str (if s.permit then [97, 108, 108, 111, 119] else [100, 101, 110, 121])] 1]) 2 rfl (fun _ => rfl) (fun _ => rfl) (fun _ => rfl) ?_ ?_
 ·refine zT ?_ ?_ <;> intro h1 <;> refine zNq ?_
  ·rw [if_pos h1]
   (try refine zS ?_)
   (refine pl_op rfl (op_of (v_indexm hT rfl rfl rfl rfl rfl (by decide) (by decide) (by decide)) ?_); (refine zNp ?_))
   (refine pl_op rfl (op_storeE' (x0 := .str [100, 101, 110, 121]) (x1 := .str [97, 108, 108, 111, 119]) (xs' := [.str [97, 108, 108, 111, 119]]) hT rfl rfl rfl rfl rfl (by decide) (rfl) rfl rfl rfl rfl (Nat.le_of_ble_eq_true rfl) rfl (rfl) ?_); (refine zNp ?_))
   (try refine zS ?_)
   exact ⟨(), trivial, zLe, zLes⟩
  ·rw [if_neg h1]
   (try refine zS ?_)
   exact ⟨(), trivial, zLe, zLes⟩
 rintro _ _
 refine zNq ?_
 (try refine zS ?_)
 refine zDr [[0,1,2,4,5,7,8],[3,6,9],[10],[11],[12]] ?_
 refine zDn ?_
 refine zD ?_
 (refine po_step rfl rfl (op_append (b := 16) hT rfl rfl rfl rfl rfl rfl (.inl (Nat.zero_lt_succ _)) rfl rfl (Nat.le_of_ble_eq_true rfl) (fun c0 _ hcap => ⟨zLok, ?_⟩)); refine zDn ?_)
 refine zD ?_
 (refine pw_mv 1 2 hD rfl rfl rfl rfl rfl ?_; refine pw_norm rfl ?_)
 (refine pw_trim 2 hD rfl rfl ?_; refine pw_norm rfl ?_)
 refine pw_st (st' := [.box (stmP s), .arr 1 ((stmW0 s).map .str) c0]) rfl ?_
 refine zNq ?_
 (try refine zS ?_)
 have l0 : (stmW0 s).length = 5 := rfl
 refine pw_joinX hD (fun _ : Nat => True) (fun c => [(3, .msl 1 2 0 ((stmW1 s).map PV.str).length c), (20, .any), (22, .any)]) (fun c => [.box (stmP s), .dead, .arr 1 ((stmW1 s).map .str) c]) 3 rfl (fun _ => rfl) (fun _ => rfl) (fun _ => rfl) ?_ ?_
 ·refine zT ?_ ?_ <;> intro h1 <;> refine zNq ?_
  ·have e1 : stmW1 s = stmW0 s ++ [[101, 120, 99, 101, 112, 116], nameS s.exSrc, [45, 62], nameS s.exDst] := by unfold stmW1; rw [h1]; rfl
   rw [e1]
   refine zDr [[0,1,2,4,5],[3,6],[7],[8],[9]] ?_
   refine zDn ?_
   refine zD ?_
   (refine po_step rfl rfl (op_append (b := 16) hT rfl rfl rfl rfl rfl rfl (.inl (Nat.zero_lt_succ _)) rfl rfl (by simp; omega) (fun c1 _ hcap => ⟨zLok, ?_⟩)); refine zDn ?_)
   refine zD ?_
   refine ⟨c1, trivial, ?_, ?_⟩
   all_goals simp only [List.map_append, List.length_append]
   ·(exact zLe)
   ·(exact zLes)
  ·have e1 : stmW1 s = stmW0 s := by
    rw [Bool.not_eq_true] at h1
    unfold stmW1; rw [h1]; exact List.append_nil _
   rw [e1]
   refine pw_ghost 1 ?_
   refine zNq ?_
   (refine pw_mv 2 1 hD rfl rfl rfl rfl rfl ?_; refine pw_norm rfl ?_)
   (try refine zS ?_)
   exact ⟨c0, trivial, zLe, zLes⟩
 intro c _
 refine zNq ?_
 (refine pw_mv 1 2 hD rfl rfl rfl rfl rfl ?_; refine pw_norm rfl ?_)
 (refine pw_trim 2 hD rfl rfl ?_; refine pw_norm rfl ?_)
 have l1 : (stmW1 s).length ≤ 9 := by unfold stmW1; rw [List.length_append]; split <;> simp [l0]
 generalize hW : stmW1 s = W at l1 ⊢
 refine zNq ?_
 (try refine zS ?_)
 refine pw_joinX hD (fun _ : Nat => True) (fun c => [(3, .msl 1 1 0 ((stmW2 s).map PV.str).length c), (34, .any)]) (fun c => [.box (stmP s), .arr 1 ((stmW2 s).map .str) c]) 2 rfl (fun _ => rfl) (fun _ => rfl) (fun _ => rfl) ?_ ?_
 ·refine zT ?_ ?_ <;> intro h1 <;> refine zNq ?_
  ·have e1 : stmW2 s = W ++ [[118, 105, 97], s.cls] := by unfold stmW2; rw [hW, if_neg h1]
   rw [e1]
   (try refine zS ?_)
   (refine pl_append (b := 16) hT hD rfl rfl rfl rfl rfl rfl rfl rfl (.inl (Nat.zero_lt_succ _)) rfl rfl (by simp; omega) (fun c1 _ hcap => ?_); (refine zNp ?_))
   (try refine zS ?_)
   refine ⟨c1, trivial, ?_, ?_⟩
   all_goals simp only [List.map_append, List.length_append]
   ·(exact zLe)
   ·(exact zLes)
  ·have e1 : stmW2 s = W := by unfold stmW2; rw [hW, if_pos (Decidable.not_not.1 h1)]; exact List.append_nil _
   rw [e1]
   (try refine zS ?_)
   exact ⟨c, trivial, zLe, zLes⟩
 have l2 : (stmW2 s).length ≤ 11 := by unfold stmW2; rw [hW, List.length_append]; split <;> simp <;> omega
 clear hW l1 c
 intro c _
 generalize hW : stmW2 s = W at l2 ⊢
 have l1 := l2
 clear l2
 refine zNq ?_
 (try refine zS ?_)
 refine pw_joinX hD (fun _ : Nat => True) (fun c => [(3, .msl 1 1 0 ((stmW3 s).map PV.str).length c), (42, .any)]) (fun c => [.box (stmP s), .arr 1 ((stmW3 s).map .str) c]) 2 rfl (fun _ => rfl) (fun _ => rfl) (fun _ => rfl) ?_ ?_
 ·refine zT ?_ ?_ <;> intro h1 <;> refine zNq ?_
  ·have e1 : stmW3 s = W ++ [[100, 117, 114, 105, 110, 103], s.during] := by unfold stmW3; rw [hW, if_neg h1]
   rw [e1]
   (try refine zS ?_)
   (refine pl_append (b := 16) hT hD rfl rfl rfl rfl rfl rfl rfl rfl (.inl (Nat.zero_lt_succ _)) rfl rfl (by simp; omega) (fun c1 _ hcap => ?_); (refine zNp ?_))
   (try refine zS ?_)
   refine ⟨c1, trivial, ?_, ?_⟩
   all_goals simp only [List.map_append, List.length_append]
   ·(exact zLe)
   ·(exact zLes)
  ·have e1 : stmW3 s = W := by unfold stmW3; rw [hW, if_pos (Decidable.not_not.1 h1)]; exact List.append_nil _
   rw [e1]
   (try refine zS ?_)
   exact ⟨c, trivial, zLe, zLes⟩
 have l2 : (stmW3 s).length ≤ 13 := by unfold stmW3; rw [hW, List.length_append]; split <;> simp <;> omega
 clear hW l1 c
 intro c _
 generalize hW : stmW3 s = W at l2 ⊢
 have l1 := l2
 clear l2
 refine zNq ?_
 (try refine zS ?_)
 refine pw_joinX hD (fun _ : Nat => True) (fun c => [(3, .msl 1 1 0 ((stmW s).map PV.str).length c), (50, .any)]) (fun c => [.box (stmP s), .arr 1 ((stmW s).map .str) c]) 2 rfl (fun _ => rfl) (fun _ => rfl) (fun _ => rfl) ?_ ?_
 ·refine zT ?_ ?_ <;> intro h1 <;> refine zNq ?_
  ·have e1 : stmW s = W ++ [[112, 114, 105, 111, 114, 105, 116, 121], dec s.prio.toNat] := by unfold stmW; rw [hW, if_neg h1]
   rw [e1]
   (try refine zS ?_)
   (refine pl_append (b := 16) hT hD rfl rfl rfl rfl rfl rfl rfl rfl (.inl (Nat.zero_lt_succ _)) rfl rfl (by simp; omega) (fun c1 _ hcap => ?_); (refine zNp ?_))
   (try refine zS ?_)
   refine ⟨c1, trivial, ?_, ?_⟩
   all_goals simp only [List.map_append, List.length_append]
   ·(exact zLe)
   ·(exact zLes)
  ·have e1 : stmW s = W := by unfold stmW; rw [hW, if_pos (Decidable.not_not.1 h1)]; exact List.append_nil _
   rw [e1]
   (try refine zS ?_)
   exact ⟨c, trivial, zLe, zLes⟩
 have l2 : (stmW s).length ≤ 15 := by unfold stmW; rw [hW, List.length_append]; split <;> simp <;> omega
 clear hW l1 c
 intro c _
 generalize hW : stmW s = W at l2 ⊢
 have l1 := l2
 clear l2
 refine zNq ?_
 (try refine zS ?_)
 subst hW
 exact ret0 _ (.sl ((stmW s).map .str)) rfl rfl (.inr (.inr (.inr (.inl ⟨_, _, _, _, _, _, rfl, rfl, rfl, rfl, rfl⟩)))) rfl
instance iStatement2 (s : TStm) : ConF Tryz.prog Gl 62 [.agg [.bool s.permit, .str s.src, .str s.dst, .str s.service, .bool s.excepted, .str s.exSrc, .str s.exDst, .str s.cls, .str s.during, .int .i64 s.prio]] (GT Gl ∧ 0 ≤ s.prio ∧ s.prio < 10000000) (.sl ((stmW s).map .str)) := ⟨e62, fun h => c_statement2 h.1 s h.2⟩
theorem c_add1 (ws : List Str) (out : List TLine) (cap : Nat) (ho : out.length ≤ 1000) : PCalls Tryz.prog Gl 58 [.sl (ws.map .str), .ptr 0 0] [.box [.msl 2 1 0 (out.map eLine).length cap], .arr 2 (out.map eLine) cap] fun r σ =>
  r = .tup [] ∧ ∃ cap', σ = [.box [.msl 2 1 0 ((out ++ [ln ws]).map eLine).length cap'], .arr 2 ((out ++ [ln ws]).map eLine) cap'] := by
 refine PCalls.of hT Tryz.func58 rfl 2 (Nat.le_refl _) fun B hD => ?_
 refine pw_norm rfl ?_
 (try refine zS ?_)
 (refine pl_append (b := 32) hT hD rfl rfl rfl rfl rfl rfl rfl rfl (.inl (Nat.zero_lt_succ _)) rfl rfl (by simp; omega) (fun cap' _ hcap => ?_); (refine zNp ?_))
 (try refine zS ?_)
 have e : (out.map eLine) ++ [eLine (ln ws)] = (out ++ [ln ws]).map eLine := by simp
 refine ⟨_, _, [.box [.msl 2 1 0 ((out ++ [ln ws]).map eLine).length cap'], .arr 2 ((out ++ [ln ws]).map eLine) cap'], rfl, ⟨rfl, cap', rfl⟩, .inr (.inl rfl), ?_, rfl, rfl⟩
 simp only [← e, List.length_append]
 exact zF
def fst2 (out : List TLine) (cap : Nat) : List PObj := [.box [.msl 2 2 0 (out.map eLine).length cap], .box [.fn 58 [.ptr 0 0]], .arr 2 (out.map eLine) cap]
theorem itemW_pos (x : TItem) (g : Bool) : 1 ≤ (itemW x g).length ∧ (itemW x g).length ≤ 2 := by
 unfold itemW
 repeat' split
 all_goals exact ⟨Nat.le_of_ble_eq_true rfl, Nat.le_of_ble_eq_true rfl⟩
theorem c_define2 (hG : GT Gl) (l : List TDef) (g : Bool) (out : List TLine) (cap : Nat) (hl : l.length ≤ 32) (ho : out.length ≤ 200) (hd : ∀ d ∈ l, d.items.length ≤ 16 ∧ ∀ x ∈ d.items, FItem x) :
  PCalls Tryz.prog Gl 59 [.sl (l.map eDef), .str (kindS g), .ptr 1 0] (fst2 out cap) fun r σ => r = .tup [] ∧ ∃ cap', σ = fst2 (out ++ l.map fun d => ln (defW g d)) cap' := by
 refine PCalls.of hT Tryz.func59 rfl 3 (Nat.le_refl _) fun B hD => ?_
 have hX : (out ++ l.map fun d => ln (defW g d)).length ≤ 232 := by rw [List.length_append, List.length_map]; omega
 have hX0 : out ++ l.map (fun d => ln (defW g d)) = out ++ (l.drop 0).map (fun d => ln (defW g d)) := rfl
 unfold fst2
 refine pw_norm rfl ?_
 (try refine zS ?_)
 refine zNq ?_
 generalize hXe : (out ++ l.map fun d => ln (defW g d)) = X at hX hX0 ⊢
 refine pw_for hD (fun a : Nat × List TLine × Nat => [(12, .int .i64 a.1)]) (fun a => fst2 a.2.1 a.2.2) (fun a => a.1 ≤ l.length ∧ a.2.1 ++ (l.drop a.1).map (fun d => ln (defW g d)) = X) (fun a => l.length - a.1) (0, out, cap) ⟨Nat.zero_le _, hX0.symm⟩ 3 rfl (fun _ => rfl) (by unfold fst2; (exact zLes)) (fun _ => rfl) (fun _ => rfl) zLe ?_
 clear hX0
 rintro ⟨k, o2, cap⟩ ⟨hk, hw⟩
 dsimp only at hk hw ⊢
 have ho2 := outLen hw
 unfold fst2
 refine zNq ?_
 (try refine zS ?_)
 refine zT ?_ ?_ <;> intro h <;> refine zNq ?_
 ·have hlt : k < l.length := by omega
  have hw2 := selD (fun d => ln (defW g d)) l k hlt o2 _ hw
  obtain ⟨hi16, hit⟩ := hd _ (getD_memD hlt)
  refine zSm ?_
  (refine pl_op rfl (op_litm hT rfl rfl rfl rfl rfl (by decide) rfl rfl rfl rfl ?_); (refine zNp ?_))
  (try refine zS ?_)
  refine zNq ?_
  generalize l.getD k default = d at hw2 hi16 hit ⊢
  refine pw_for hD (fun a : Nat × Nat => [(7, .msl 1 4 0 (([kindS g, d.name, [61]] ++ itemsN d.items g a.1).map PV.str).length a.2), (19, .any), (23, .int .i64 a.1)]) (fun a => fst2 o2 cap ++ [.box (eDef d).cells, .arr 1 (([kindS g, d.name, [61]] ++ itemsN d.items g a.1).map .str) a.2]) (fun a => a.1 ≤ d.items.length) (fun a => d.items.length - a.1) (0, 3) (Nat.zero_le _) 5 rfl (fun _ => rfl) (by unfold fst2; (exact zLes)) (fun _ => rfl) (fun _ => rfl) zLe ?_
  rintro ⟨j, c3⟩ hj
  dsimp only at hj ⊢
  have hnl := (itemsN_len d.items g j).1
  unfold fst2
  refine zNq ?_
  (try refine zS ?_)
  refine zT ?_ ?_ <;> intro h2 <;> refine zNq ?_
  ·have hjl : j < d.items.length := by omega
   have hx := hit _ (getD_memD hjl)
   have hip := itemW_pos (d.items.getD j default) g
   have hnx : [kindS g, d.name, [61]] ++ itemsN d.items g (j + 1) = (([kindS g, d.name, [61]] ++ itemsN d.items g j) ++ if 0 < j then [[44]] else []) ++ itemW (d.items.getD j default) g := by
    simp only [itemsN, List.append_assoc]
   have hW0 : ([kindS g, d.name, [61]] ++ itemsN d.items g j).length ≤ 60 := by rw [List.length_append]; show 3 + _ ≤ _; omega
   generalize ([kindS g, d.name, [61]] ++ itemsN d.items g j) = W at hnx hW0 ⊢
   (try refine zS ?_)
   refine pw_joinX hD (fun _ : Nat => True) (fun c => [(7, .msl 1 4 0 ((W ++ if 0 < j then [[44]] else []).map PV.str).length c), (29, .any)]) (fun c => fst2 o2 cap ++ [.box (eDef d).cells, .arr 1 ((W ++ if 0 < j then [[44]] else []).map .str) c, .box (eItem (d.items.getD j default)).cells]) 6 rfl (fun _ => rfl) (fun _ => rfl) (fun _ => rfl) ?_ ?_
   ·refine zT ?_ ?_ <;> intro h1 <;> refine zNq ?_
    ·rw [if_pos (show 0 < j by omega)]
     (try refine zS ?_)
     (refine pl_append (b := 16) hT hD rfl rfl rfl rfl rfl rfl rfl rfl (.inl (Nat.zero_lt_succ _)) rfl rfl (by simp; omega) (fun cap1 _ hcap => ?_); (refine zNp ?_))
     (try refine zS ?_)
     refine ⟨cap1, trivial, ?_, ?_⟩
     all_goals simp only [List.map_append, List.length_append]
     ·(exact zLe)
     ·unfold fst2; (exact zLes)
    ·rw [if_neg (show ¬ 0 < j by omega), List.append_nil]
     (try refine zS ?_)
     exact ⟨c3, trivial, zLe, by unfold fst2; (exact zLes)⟩
   intro c _
   have hW1 : (W ++ if 0 < j then [[44]] else []).length ≤ 61 := by
    have : (if 0 < j then [[44]] else ([] : List Str)).length ≤ 1 := by split <;> decide
    rw [List.length_append]; omega
   generalize (W ++ if 0 < j then [[44]] else []) = W1 at hnx hW1 ⊢
   unfold fst2
   refine zNq ?_
   (try refine zS ?_)
   (refine pl_op rfl (op_fun (c_item2 hG (d.items.getD j default) g hx) rfl rfl e60 zLe rfl (fun r hr => ?_)); subst hr; refine ⟨rfl, ?_⟩; (refine zNp ?_))
   (refine pl_append (b := 16) hT hD rfl rfl rfl rfl rfl rfl rfl rfl (.inl (by rw [List.length_map]; omega)) (by simp only [List.all_map]; exact List.all_eq_true.2 fun _ _ => rfl) (by simp only [List.all_map]; exact List.all_eq_true.2 fun _ _ => rfl) (by simp only [List.length_map]; omega) (fun cap1 _ hcap => ?_); (refine zNp ?_))
   (try refine zS ?_)
   refine ⟨(j + 1, cap1), hjl, by dsimp only; omega, ?_, ?_⟩
   all_goals simp only [hnx, List.map_append, List.length_append]
   ·(exact zLe)
   ·(try unfold fst2)
    (exact zLes)
  ·obtain rfl : j = d.items.length := by omega
   refine pw_exit ?_
   refine pw_frz1 4 7 rfl rfl rfl ?_
   refine zNq ?_
   (try refine zS ?_)
   (refine pl_op rfl (op_callA [0, 2] rfl rfl e58 (by decide) rfl rfl rfl zLe zLes (c_add1 (defW g d) o2 cap (by omega)) (fun r s hq => ?_)); obtain ⟨rfl, cap', rfl⟩ := hq; refine ⟨rfl, rfl, ?_⟩; (refine zNp ?_))
   refine pl_nil ?_
   (refine pw_mv 2 6 hD rfl rfl rfl rfl rfl ?_; refine pw_norm rfl ?_)
   (try refine zS ?_)
   refine ⟨(k + 1, o2 ++ [ln (defW g d)], cap'), ⟨hlt, hw2⟩, by dsimp only; omega, ?_, ?_⟩
   ·(exact zLe)
   ·(try unfold fst2)
    (exact zLes)
 ·obtain rfl : o2 = X := outEnd hw (by omega)
  (try refine zS ?_)
  subst hXe
  exact ⟨_, _, _, rfl, ⟨rfl, cap, rfl⟩, .inr (.inl rfl), zF, rfl, rfl⟩

end
end Go.Proofs.YtkaobkjcjodffaaGreatDoor