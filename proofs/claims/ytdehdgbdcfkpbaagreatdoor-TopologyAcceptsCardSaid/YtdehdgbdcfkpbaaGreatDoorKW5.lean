/-
  source.Join, walked at the world's level: it writes into a strings.Builder.
  The closure that adds a line to the text.
-/
import Derived.Test.YtdehdgbdcfkpbaaGreatDoorKW2
import Derived.BigCall
import Derived.Test.YtdehdgbdcfkpbaaGreatDoorKG2
namespace Go.Proofs.YtdehdgbdcfkpbaaGreatDoor
open Go Go.Pw Go.RowKit
set_option maxHeartbeats 20000000
set_option maxRecDepth 100000

def bsOf (s : Str) : ByteArray := ⟨s.toArray⟩
theorem joinW_tail (ws : List Str) : ∀ k, joinW (k + 1) ws = Lib.joinTail [32] ws := by
  induction ws with
  | nil => intro k; rfl
  | cons w ws ih => intro k; rw [joinW, ih (k + 1)]; simp [Lib.joinTail]
theorem joinW_join : ∀ ws : List Str, Lib.join ws [32] = joinW 0 ws
  | [] => rfl
  | w :: ws => by rw [Lib.join_cons, joinW, joinW_tail ws 0]
theorem bldBelow {T e : TypeId} {B b : Nat} {bs : List Value} {W W' : World} (h : Lib.IsBuilderF T e B b bs W) (hb : Below W.heap.size W W') : Lib.IsBuilderF T e B b bs W' := by
  have hg : W.grownBy W' none := ⟨hb.os, hb.tape, hb.output, hb.size, fun k hk _ => hb.block k hk⟩
  have one : ∀ p, Lib.BuilderAtF T e B b p bs W → Lib.BuilderAtF T e B b p bs W' := by
    rintro p hp
    have hlt := hp.lt
    obtain ⟨hB, v, h1, hown, hne⟩ := hp
    exact ⟨hB, v, (hb.block b hlt).trans h1, hown.kept hg (by cases hv : v.ownBlock <;> simp), hne⟩
  exact h.elim (fun x => .inl (one _ x)) (fun x => .inr (one _ x))
theorem join_walk (bk o c : Nat) (l : List TLine) (sv : Nat → Nat × Nat × Nat) (w : World) (hN : l.length ≤ 1000)
    (h0 : ∀ (i : Nat) x, l[i]? = some x → w.cell? ⟨bk, o + i * 2, none⟩ = some (.int .i64 x.num))
    (h1 : ∀ (i : Nat) x, l[i]? = some x → w.cell? ⟨bk, o + i * 2 + 1, none⟩ = some (.slice (some ⟨(sv i).1, (sv i).2.1, none⟩) (x.words.map bsOf).length (sv i).2.2))
    (h2 : ∀ (i : Nat) x, l[i]? = some x → x.words.length ≤ (sv i).2.2 ∧ (sv i).1 < w.heap.size ∧ ∀ (j : Nat) y, (x.words.map bsOf)[j]? = some y → w.cell? ⟨(sv i).1, (sv i).2.1 + j, none⟩ = some (.string y))
    (h3 : ∀ x ∈ l, x.words.length ≤ 1000) (h4 : (textS l).length ≤ 100000) (_hlc : l.length ≤ c) (hbk : bk < w.heap.size) :
    Calls Tryz.prog 80 #[.slice (some ⟨bk, o, none⟩) l.length c] w fun e w' => e = .returned (.string ⟨(textS l).toArray⟩) ∧ Below w.heap.size w w' := by
  have hb0 : Lib.IsBuilderF 133 5 w.heap.size w.heap.size (Lib.byteCells []) (w.alloc (.cells #[.pointer none, .slice none 0 0] 133)) := Lib.IsBuilderF.of (Lib.fresh_isBuilder 133 5 w)
  have b0 : Below w.heap.size w (w.alloc (.cells #[.pointer none, .slice none 0 0] 133)) := (Below.refl _ w).alloc (Nat.le_refl _) _
  go_enter Tryz.func80, Tryz.ntmps80
  go_wp2
  go_loopw [8] (fun v wr => ∃ i : Nat, i ≤ l.length ∧ v = .int .i64 i ∧ Lib.IsBuilderF 133 5 w.heap.size w.heap.size (Lib.byteCells (textS (l.take i))) wr ∧ Below w.heap.size w wr ∧ w.heap.size < wr.heap.size) (fun v _ => l.length - (intOf v).toNat)
  case atStart => exact ⟨0, Nat.zero_le _, rfl, hb0, b0, by simp⟩
  case round =>
    obtain ⟨i, hi, rfl, hb, hbl, hsz⟩ := hrel
    rcases Nat.lt_or_ge i l.length with hlt | hge
    · obtain ⟨x, hx⟩ : ∃ x, l[i]? = some x := ⟨_, List.getElem?_eq_getElem hlt⟩
      obtain ⟨g1, g2, g3⟩ := h2 i x hx
      have f0 : wr.cell? ⟨bk, o + i * 2, none⟩ = some (.int .i64 x.num) := (hbl.cell hbk).trans (h0 i x hx)
      have f1 := (hbl.cell hbk).trans (h1 i x hx)
      generalize sv i = s at *
      obtain ⟨s1, s2, s3⟩ := s
      dsimp only at *
      have hxm := h3 x (List.mem_of_getElem? hx)
      have hd : textS l = textS (l.take i) ++ (joinW 0 x.words ++ [10]) ++ textS (l.drop (i + 1)) := by
        have e : l = l.take i ++ x :: l.drop (i + 1) := by
          rw [show x = l[i] from (List.getElem?_eq_some_iff.1 hx).2.symm, ← List.drop_eq_getElem_cons hlt, List.take_append_drop]
        conv => lhs; rw [e]
        simp [textS, lineS]
      have hd2 : textS (l.take (i + 1)) = textS (l.take i) ++ (joinW 0 x.words ++ [10]) := by
        rw [List.take_add_one, hx]
        simp [textS, lineS]
      have hln := congrArg List.length hd
      simp only [List.length_append, List.length_singleton] at hln
      have hj : ∀ W, Below w.heap.size w W → Calls Tryz.prog 114 #[.slice (some ⟨s1, s2, none⟩) x.words.length s3, .string ⟨#[32]⟩] W fun e w' => e = .returned (.string (bsOf (joinW 0 x.words))) ∧ Below W.heap.size W w' := by
        intro W hW
        have em : (x.words.map bsOf).map (·.data.toList) = x.words := by rw [List.map_map]; exact List.map_id _
        have := Tryz.strings_Join s1 s2 s3 (x.words.map bsOf) ⟨#[32]⟩ W (fun j y hy => (hW.cell g2).trans (g3 j y hy)) (by have := hW.size; omega) (by rw [List.length_map]; omega) (by rw [List.length_map]; exact g1) (by rw [em]; show (Lib.join x.words [32]).length ≤ _; rw [joinW_join]; omega)
        rw [em, List.length_map] at this
        refine this.mono ?_
        rintro e w' ⟨rfl, h⟩
        refine ⟨?_, h⟩
        show Ending.returned (.string ⟨(Lib.join x.words [32]).toArray⟩) = _
        rw [joinW_join]; rfl
      generalize joinW 0 x.words = js at *
      have hbA : Lib.IsBuilderF 133 5 w.heap.size w.heap.size (Lib.byteCells (textS (l.take i))) (wr.alloc (.cells #[.int .i64 x.num, .slice (some ⟨s1, s2, none⟩) x.words.length s3] 58)) := hb.alloc _
      have blA : Below w.heap.size w (wr.alloc (.cells #[.int .i64 x.num, .slice (some ⟨s1, s2, none⟩) x.words.length s3] 58)) := hbl.alloc hbl.size _
      go_wp2_with (go_at_call 114; refine (hj _ blA).mono ?_; rintro e W1 ⟨rfl, hb1⟩; refine Hid.out ?_)
      refine Lib.hid ?_
      have hbB := bldBelow hbA hb1
      have blB : Below w.heap.size w W1 := blA.trans (hb1.mono blA.size)
      have hjl : (bsOf js).size = js.length := by simp [bsOf, ByteArray.size]
      have htl : (Lib.byteCells (textS (l.take i))).length = (textS (l.take i)).length := Lib.byteCells_length _
      have hsl : (Lib.strCells (bsOf js)).length = js.length := by rw [Lib.strCells_length, hjl]
      go_wp2_with (go_at_call 113; refine (Tryz.Builder_WriteString_k w.heap.size w.heap.size _ (bsOf js) _ hbB (by omega) blB.size).mono ?_; rintro e W2 ⟨rfl, hbC, blC, _⟩; refine Hid.out ?_)
      refine Lib.hid ?_
      go_wp2_with (go_at_call 115; refine (Tryz.Builder_WriteByte_k w.heap.size w.heap.size _ 10 _ (.inr hbC) (by rw [List.length_append]; omega) (blB.trans blC).size).mono ?_; rintro e W3 ⟨rfl, hbD, blD, _⟩; refine Hid.out ?_)
      refine Lib.hid ?_
      have blE := (blB.trans blC).trans blD
      have hbE : Lib.IsBuilderF 133 5 w.heap.size w.heap.size (Lib.byteCells (textS (l.take (i + 1)))) W3 := by
        refine .inr ?_
        rw [hd2, Lib.byteCells_append, Lib.byteCells_append, ← List.append_assoc]
        exact hbD
      go_wp2
      refine ⟨⟨i + 1, hlt, by simp, hbE, blE, ?_⟩, by simp only [intOf]; omega⟩
      have z1 := hb1.size
      have z2 := blC.size
      have z3 := blD.size
      have z4 := blA.size
      have z5 : (wr.alloc (.cells #[.int .i64 x.num, .slice (some ⟨s1, s2, none⟩) x.words.length s3] 58)).heap.size = wr.heap.size + 1 := by simp
      have z6 := hbD.1
      have z7 := hbD.lt
      omega
    · have hie : i = l.length := by omega
      subst hie
      rw [List.take_length] at hb
      go_wp2_with (go_at_call 116; refine (Tryz.Builder_String_any_k w.heap.size w.heap.size _ _ hb hbl.size).mono ?_; rintro e W5 ⟨rfl, _, b5, _⟩)
      go_ret
      exact ⟨rfl, hbl.trans b5⟩
variable {Gl : Glob}
theorem den_words {A : Nat → Prop} {w : World} {ws : List Str} {v : Value} (h : Den A w [] (.sl (ws.map .str)) v) (hne : ws ≠ []) :
    ∃ b o cap, v = .slice (some ⟨b, o, none⟩) ws.length cap ∧ A b ∧ ws.length ≤ cap ∧ ∀ (j : Nat) y, ws[j]? = some y → w.cell? ⟨b, o + j, none⟩ = some (.string (bsOf y)) := by
  generalize hx : ws.map PV.str = xs at h
  have hxne : xs ≠ [] := by rintro rfl; exact hne (List.map_eq_nil_iff.1 hx)
  have key : ∀ p, Den A w [] p v → p = .sl xs → ∃ b o cap, v = .slice (some ⟨b, o, none⟩) ws.length cap ∧ A b ∧ ws.length ≤ cap ∧ ∀ (j : Nat) y, ws[j]? = some y → w.cell? ⟨b, o + j, none⟩ = some (.string (bsOf y)) := by
    intro p hp hpe
    cases hp <;> try (cases hpe; done)
    · simp only [PV.sl.injEq] at hpe
      exact absurd hpe.symm hxne
    · rename_i k xs' a cap f hA hlc hm hk hc hd
      simp only [PV.sl.injEq] at hpe
      subst hpe
      have hk1 : k = 1 := by
        obtain ⟨x, hx1⟩ := List.exists_mem_of_ne_nil _ hxne
        have := hk x hx1
        rw [← hx] at hx1
        obtain ⟨s, _, rfl⟩ := List.mem_map.1 hx1
        exact this.symm
      subst hk1
      obtain ⟨ha, hsp⟩ := hA hxne
      obtain ⟨ab, ao, asp⟩ := a
      dsimp only at ha hsp
      subst hsp
      refine ⟨ab, ao, cap, by rw [← hx, List.length_map], ha, by rw [← hx, List.length_map] at hlc; exact hlc, fun j y hj => ?_⟩
      have hxj : xs'[j]? = some (.str y) := by rw [← hx, List.getElem?_map, hj]; rfl
      have h1 := hc j _ 0 (.str y) hxj rfl
      have h2 := hd j _ 0 (.str y) hxj rfl
      rw [h2.lit rfl] at h1
      rw [show j * 1 + 0 = j by omega] at h1
      exact h1
  exact key _ h rfl
def svOf : Value → Nat × Nat × Nat
  | .slice (some a) _ c => (a.block, a.off, c)
  | _ => (0, 0, 0)
theorem c80 (l : List TLine) (hne : l ≠ []) (hl : l.length ≤ 1000) (hw : ∀ x ∈ l, x.words ≠ [] ∧ x.words.length ≤ 1000) (hb : (textS l).length ≤ 100000) : PFun Tryz.prog Gl 80 [.sl (l.map eLine)] fun r => r = .str (textS l) := fun A w β vals hi har => by
  obtain ⟨v, rfl⟩ : ∃ v, vals = [v] := by
    have := har.1
    match vals, this with
    | [v], _ => exact ⟨v, rfl⟩
  have hv := har.2 0 _ _ rfl rfl
  have hxne : l.map eLine ≠ [] := fun e => hne (List.map_eq_nil_iff.1 e)
  have key : ∀ p, Den A w β p v → p = .sl (l.map eLine) → Calls Tryz.prog 80 #[v] w fun e w' => e = .returned (.string ⟨(textS l).toArray⟩) ∧ Below w.heap.size w w' := by
    intro p hp hpe
    cases hp <;> try (cases hpe; done)
    · simp only [PV.sl.injEq] at hpe
      exact absurd hpe.symm hxne
    · rename_i k xs' a cap f hA hlc hm hk hc hd
      simp only [PV.sl.injEq] at hpe
      subst hpe
      have hk2 : k = 2 := by
        obtain ⟨x, hx1⟩ := List.exists_mem_of_ne_nil _ hxne
        have := hk x hx1
        obtain ⟨s, _, rfl⟩ := List.mem_map.1 hx1
        exact this.symm
      subst hk2
      obtain ⟨ha, hsp⟩ := hA hxne
      obtain ⟨ab, ao, asp⟩ := a
      dsimp only at ha hsp hc
      subst hsp
      have hat : ∀ (i : Nat) x, l[i]? = some x → (l.map eLine)[i]? = some (eLine x) := fun i x hx => by rw [List.getElem?_map, hx]; rfl
      have hww : ∀ (i : Nat) x, l[i]? = some x → ∃ b o cap, f i 1 = .slice (some ⟨b, o, none⟩) x.words.length cap ∧ A b ∧ x.words.length ≤ cap ∧ ∀ (j : Nat) y, x.words[j]? = some y → w.cell? ⟨b, o + j, none⟩ = some (.string (bsOf y)) := fun i x hx =>
        den_words (hd i _ 1 (.sl (x.words.map .str)) (hat i x hx) rfl) (hw x (List.mem_of_getElem? hx)).1
      rw [List.length_map]
      refine join_walk ab ao cap l (fun i => svOf (f i 1)) w hl (fun i x hx => ?_) (fun i x hx => ?_) (fun i x hx => ?_) (fun x hx => (hw x hx).2) hb (by rw [List.length_map] at hlc; exact hlc) (hi.lt _ ha)
      · have h1 := hc i _ 0 (.int .i64 x.num) (hat i x hx) rfl
        have h2 := hd i _ 0 (.int .i64 x.num) (hat i x hx) rfl
        rw [h2.lit rfl] at h1
        exact h1
      · have h1 := hc i _ 1 (.sl (x.words.map .str)) (hat i x hx) rfl
        obtain ⟨b, o, c, e, _⟩ := hww i x hx
        rw [e] at h1 ⊢
        rw [List.length_map]
        exact h1
      · obtain ⟨b, o, c, e, hAb, hle, hcell⟩ := hww i x hx
        rw [e]
        refine ⟨hle, hi.lt _ hAb, fun j y hy => ?_⟩
        rw [List.getElem?_map] at hy
        cases hj : x.words[j]? with
        | none => rw [hj] at hy; cases hy
        | some z =>
          rw [hj] at hy
          cases hy
          exact hcell j z hj
  refine (key _ hv rfl).mono ?_
  rintro e w' ⟨rfl, hbl⟩
  obtain ⟨h1, h2⟩ := hi.below hbl
  exact ⟨.str (textS l), _, [], A, β, rfl, ⟨rfl, rfl⟩, den_lit (.str (textS l)) rfl, h1⟩
end Go.Proofs.YtdehdgbdcfkpbaaGreatDoor
namespace Go.Proofs.YtdehdgbdcfkpbaaGreatDoor
open Go Go.Pw
variable {Gl : Glob}
attribute [local irreducible] PW PWL OpP PCalls PWO
set_option maxHeartbeats 20000000
set_option maxRecDepth 100000

theorem c77 (ws : List Str) (out : List TLine) (cap : Nat) (ho : out.length ≤ 1000) : PCalls Tryz.prog Gl 77 [.sl (ws.map .str), .ptr 0 0] [.box [.msl 2 1 0 (out.map eLine).length cap], .arr 2 (out.map eLine) cap] fun r σ =>
    r = .tup [] ∧ ∃ cap', σ = [.box [.msl 2 1 0 ((out ++ [ln ws]).map eLine).length cap'], .arr 2 ((out ++ [ln ws]).map eLine) cap'] := by
  refine PCalls.of hT Tryz.func77 rfl 2 (Nat.le_refl _) fun B hD => ?_
  refine pw_norm rfl ?_
  (refine zGo ?_)
  (refine pl_append (b := 32) hT hD rfl rfl rfl rfl rfl rfl rfl rfl (.inl (Nat.zero_lt_succ _)) rfl rfl (by simp; omega) (fun cap' _ hcap => ?_); (refine zNp ?_))
  (refine zGo ?_)
  have e : (out.map eLine) ++ [eLine (ln ws)] = (out ++ [ln ws]).map eLine := by simp
  refine ⟨_, _, [.box [.msl 2 1 0 ((out ++ [ln ws]).map eLine).length cap'], .arr 2 ((out ++ [ln ws]).map eLine) cap'], rfl, ⟨rfl, cap', rfl⟩, .inr (.inl rfl), ?_, rfl, rfl⟩
  simp only [← e, List.length_append]
  exact ⟨.inr (.inl rfl), .inr (.inl rfl), trivial⟩
end Go.Proofs.YtdehdgbdcfkpbaaGreatDoor
