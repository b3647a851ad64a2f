/-
 Contracts of functions, walked over pure values.
-/
import Derived.Test.YtkaobkjcjodffaaGreatDoorTV1
import Derived.Test.YtkaobkjcjodffaaGreatDoorTR2
import Derived.Test.YtkaobkjcjodffaaGreatDoorTK51
set_option maxHeartbeats 20000000
set_option maxRecDepth 100000
namespace Go.Proofs.YtkaobkjcjodffaaGreatDoor
open Go Go.Pw
section
variable {Gl : Glob}
attribute [local irreducible] PW PWL OpP PCalls PWO PWT bothT
theorem spoil_7 (l : List Int) (hl : Tp l) : SpoilAt Gl l 7 := by
 intro j hj i n hn hi c B j0 hD hk
 have hg1 := hi.groups
 have hg2 := hi.services
 have hg3 := hi.windows
 have hg4 := hi.stms
 have hg5 := hi.pubs
 have hg6 := hi.hids
 unfold sst senv
 refine pw_code rfl ?_
 refine zNq ?_
 (repeat' (first | refine zS ?_ | refine zq5 ?_ | refine zq6 ?_))
 (refine pl_op rfl (zCl [0] e17 (c13d l hl j hj 14 (by decide)) (fun r s hq => ?_)); obtain ⟨rfl, rfl⟩ := hq; refine ⟨rfl, rfl, ?_⟩; (refine zNp ?_))
 have hj1 := nxI_le hj 14
 rw [hk]
 generalize nxI l j 14 = j1 at hj1 ⊢
 clear hk
 (repeat' (first | refine zS ?_ | refine zq5 ?_ | refine zq6 ?_))
 refine pw_room 15 rfl fun hroom => ?_
 refine zT ?_ ?_ <;> intro g <;> refine zNq ?_
 ·have h0 : 0 < i.stms.length := by simpa using g
  have hc0 : c.2.2.2.1 ≠ 0 := by rw [List.length_map] at hroom; omega
  have hx0 : (i.stms.map eStm)[0]? = some (eStm (i.stms.getD 0 default)) := by rw [List.getElem?_map, List.getD, List.getElem?_eq_getElem h0]; rfl
  (repeat' (first | refine zS ?_ | refine zq5 ?_ | refine zq6 ?_))
  (refine pl_op rfl (op_of (v_indexm hT rfl rfl rfl rfl rfl (by decide) (by rw [List.length_map]; omega) (hc0)) ?_); (refine zNp ?_))
  (repeat' (first | refine zS ?_ | refine zq5 ?_ | refine zq6 ?_))
  (refine pl_op rfl (op_storeE' (x0 := eStm (i.stms.getD 0 default)) (x1 := eStm { i.stms.getD 0 default with exSrc := [103, 49] }) (xs' := (i.stms.set 0 { i.stms.getD 0 default with exSrc := [103, 49] }).map eStm) hT rfl rfl rfl rfl rfl (hc0) (hx0) rfl rfl rfl rfl (Nat.le_of_ble_eq_true rfl) rfl (by rw [List.map_set] <;> rfl) ?_); (refine zNp ?_))
  (repeat' (first | refine zS ?_ | refine zq5 ?_ | refine zq6 ?_))
  exact ⟨_, eIntent { i with stms := i.stms.set 0 { i.stms.getD 0 default with exSrc := [103, 49] } }, _, rfl, ⟨j1, ⟨{ i with stms := i.stms.set 0 { i.stms.getD 0 default with exSrc := [103, 49] } }, hi.setT _ _, rfl⟩, hj1, rfl⟩, by (simp only [eIntent, List.map_set]; (refine .inr (.inr (.inr (.inr (.inl ⟨_, _, rfl, rfl, ?_⟩)))); (repeat (first | exact True.intro | refine ⟨.inr (.inl rfl), ?_⟩ | refine ⟨.inr (.inr (.inl ⟨rfl, rfl⟩)), ?_⟩ | refine ⟨.inr (.inr (.inr (.inl ⟨_, _, _, _, _, _, rfl, rfl, rfl, rfl, rfl⟩))), ?_⟩ | refine ⟨.inr (.inr (.inr (.inl ⟨_, _, _, _, _, _, rfl, rfl, rfl, (by simp only [List.length_map, List.length_set]), rfl⟩))), ?_⟩)))), ⟨.inr (.inl rfl), trivial⟩, rfl, rfl⟩
 ·(repeat' (first | refine zS ?_ | refine zq5 ?_ | refine zq6 ?_))
  exact ⟨_, eIntent i, _, rfl, ⟨j1, ⟨i, hi.mono (Nat.le_add_right n 3), rfl⟩, hj1, rfl⟩, by (refine .inr (.inr (.inr (.inr (.inl ⟨_, _, rfl, rfl, ?_⟩)))); (repeat (first | exact True.intro | refine ⟨.inr (.inl rfl), ?_⟩ | refine ⟨.inr (.inr (.inl ⟨rfl, rfl⟩)), ?_⟩ | refine ⟨.inr (.inr (.inr (.inl ⟨_, _, _, _, _, _, rfl, rfl, rfl, rfl, rfl⟩))), ?_⟩ | refine ⟨.inr (.inr (.inr (.inl ⟨_, _, _, _, _, _, rfl, rfl, rfl, (by simp only [List.length_map, List.length_set, List.length_append, List.length_cons, List.length_nil]), rfl⟩))), ?_⟩))), ⟨.inr (.inl rfl), trivial⟩, rfl, rfl⟩
theorem spoil_8 (l : List Int) (hl : Tp l) : SpoilAt Gl l 8 := by
 intro j hj i n hn hi c B j0 hD hk
 have hg1 := hi.groups
 have hg2 := hi.services
 have hg3 := hi.windows
 have hg4 := hi.stms
 have hg5 := hi.pubs
 have hg6 := hi.hids
 unfold sst senv
 refine pw_code rfl ?_
 refine zNq ?_
 (repeat' (first | refine zS ?_ | refine zq5 ?_ | refine zq6 ?_))
 (refine pl_op rfl (zCl [0] e17 (c13d l hl j hj 14 (by decide)) (fun r s hq => ?_)); obtain ⟨rfl, rfl⟩ := hq; refine ⟨rfl, rfl, ?_⟩; (refine zNp ?_))
 have hj1 := nxI_le hj 14
 rw [hk]
 generalize nxI l j 14 = j1 at hj1 ⊢
 clear hk
 (repeat' (first | refine zS ?_ | refine zq5 ?_ | refine zq6 ?_))
 refine zDr [[0,1,2,4,5,9,12,13,17,19],[3,6],[7,8],[10],[11],[14],[15,16],[18,20],[21,22,23,24],[25],[26],[27]] ?_
 refine zDn ?_
 refine zD ?_
 (refine po_step rfl rfl (zCl [0] e57 (c22 l hl j1 hj1) (fun r s hq => ?_)); obtain ⟨j2, ⟨a1, ha1, rfl⟩, hj2, rfl⟩ := hq; refine ⟨rfl, rfl, zLok, ?_⟩; refine zDn ?_)
 (refine po_step rfl rfl (zCl [0] e17 (c13n l hl j2 hj2 3 (by decide) (by decide)) (fun r s hq => ?_)); obtain ⟨j3, ⟨m1, hm1, rfl⟩, hj3, rfl⟩ := hq; refine ⟨rfl, rfl, zLok, ?_⟩; refine zDn ?_)
 (refine po_val rfl rfl (v_index (p := .int .i64 (spP2.getD m1 0)) hT rfl rfl rfl rfl (by omega) (lit_at (.int .i64) spP2 m1 0 hm1) rfl) ?_; refine zDn ?_)
 refine zD ?_
 (refine po_step rfl rfl (zCl [0] e42 (c_gNumber l hl j3 hj3 65535 (by decide) (by decide)) (fun r s hq => ?_)); obtain ⟨j4, ⟨v1, hv1, rfl⟩, hj4, rfl⟩ := hq; refine ⟨rfl, rfl, zLok, ?_⟩; refine zDn ?_)
 refine zD ?_
 (refine po_step rfl rfl (zCl [0] e17 (c13n l hl j4 hj4 3 (by decide) (by decide)) (fun r s hq => ?_)); obtain ⟨j5, ⟨m2, hm2, rfl⟩, hj5, rfl⟩ := hq; refine ⟨rfl, rfl, zLok, ?_⟩; refine zDn ?_)
 (refine po_val rfl rfl (v_index (p := .str (spL9.getD m2 [])) hT rfl rfl rfl rfl (by omega) (lit_at (.str) spL9 m2 [] hm2) rfl) ?_; refine zDn ?_)
 refine zD ?_
 (refine po_step rfl rfl (zCl [0] e57 (c22 l hl j5 hj5) (fun r s hq => ?_)); obtain ⟨j6, ⟨a2, ha2, rfl⟩, hj6, rfl⟩ := hq; refine ⟨rfl, rfl, zLok, ?_⟩; refine zDn ?_)
 (refine po_step rfl rfl (zCl [0] e17 (c13n l hl j6 hj6 3 (by decide) (by decide)) (fun r s hq => ?_)); obtain ⟨j7, ⟨m3, hm3, rfl⟩, hj7, rfl⟩ := hq; refine ⟨rfl, rfl, zLok, ?_⟩; refine zDn ?_)
 refine zD ?_
 (refine po_step rfl rfl (op_append (b := 56) hT rfl rfl rfl rfl rfl rfl (.inl (Nat.zero_lt_succ _)) rfl rfl (by simp only [List.length_map, List.length_cons, List.length_nil]; omega) (fun c1 _ hcap => ⟨zLok, ?_⟩)); refine zDn ?_)
 refine zD ?_
 (refine pw_mv 17 21 hD rfl rfl rfl rfl rfl ?_; refine pw_norm rfl ?_)
 (repeat' (first | refine zS ?_ | refine zq5 ?_ | refine zq6 ?_))
 exact ⟨_, eIntent { i with pubs := i.pubs ++ [⟨a1, spP2.getD m1 0, v1, spL9.getD m2 [], a2, (m3 : Int) * 40000 - 1⟩] }, _, rfl, ⟨j7, ⟨{ i with pubs := i.pubs ++ [⟨a1, spP2.getD m1 0, v1, spL9.getD m2 [], a2, (m3 : Int) * 40000 - 1⟩] }, hi.addP ⟨ha1, ha2⟩, rfl⟩, hj7, rfl⟩, by (simp only [eIntent, List.map_append, List.map_cons, List.map_nil]; (refine .inr (.inr (.inr (.inr (.inl ⟨_, _, rfl, rfl, ?_⟩)))); (repeat (first | exact True.intro | refine ⟨.inr (.inl rfl), ?_⟩ | refine ⟨.inr (.inr (.inl ⟨rfl, rfl⟩)), ?_⟩ | refine ⟨.inr (.inr (.inr (.inl ⟨_, _, _, _, _, _, rfl, rfl, rfl, rfl, rfl⟩))), ?_⟩ | refine ⟨.inr (.inr (.inr (.inl ⟨_, _, _, _, _, _, rfl, rfl, rfl, (by simp only [List.length_map, List.length_append, List.length_cons, List.length_nil]), rfl⟩))), ?_⟩)))), ⟨.inr (.inl rfl), trivial⟩, rfl, rfl⟩
theorem spoil_9 (l : List Int) (hl : Tp l) : SpoilAt Gl l 9 := by
 intro j hj i n hn hi c B j0 hD hk
 have hg1 := hi.groups
 have hg2 := hi.services
 have hg3 := hi.windows
 have hg4 := hi.stms
 have hg5 := hi.pubs
 have hg6 := hi.hids
 unfold sst senv
 refine pw_code rfl ?_
 refine zNq ?_
 (repeat' (first | refine zS ?_ | refine zq5 ?_ | refine zq6 ?_))
 (refine pl_op rfl (zCl [0] e17 (c13d l hl j hj 14 (by decide)) (fun r s hq => ?_)); obtain ⟨rfl, rfl⟩ := hq; refine ⟨rfl, rfl, ?_⟩; (refine zNp ?_))
 have hj1 := nxI_le hj 14
 rw [hk]
 generalize nxI l j 14 = j1 at hj1 ⊢
 clear hk
 (repeat' (first | refine zS ?_ | refine zq5 ?_ | refine zq6 ?_))
 refine pw_room 17 rfl fun hroom => ?_
 refine zT ?_ ?_ <;> intro g <;> refine zNq ?_
 ·have h0 : 0 < i.pubs.length := by simpa using g
  have hc0 : c.2.2.2.2.1 ≠ 0 := by rw [List.length_map] at hroom; omega
  have hx0 : (i.pubs.map ePub)[0]? = some (ePub (i.pubs.getD 0 default)) := by rw [List.getElem?_map, List.getD, List.getElem?_eq_getElem h0]; rfl
  (repeat' (first | refine zS ?_ | refine zq5 ?_ | refine zq6 ?_))
  refine zDr [[0,1,2,3,4],[5],[6],[7],[8],[9]] ?_
  refine zDn ?_
  refine zD ?_
  (refine po_val rfl rfl (v_indexm hT rfl rfl rfl rfl rfl (by decide) (by rw [List.length_map]; omega) (hc0)) ?_; refine zDn ?_)
  (refine po_step rfl rfl (op_loadE (x0 := ePub (i.pubs.getD 0 default)) hT rfl rfl rfl rfl rfl (hc0) (hx0) rfl ⟨zLok, ?_⟩); refine zDn ?_)
  refine zD ?_
  (refine po_step rfl rfl (op_append (b := 56) hT rfl rfl rfl rfl rfl rfl (.inl (Nat.zero_lt_succ _)) rfl rfl (by simp only [List.length_map, List.length_cons, List.length_nil]; omega) (fun c1 _ hcap => ⟨zLok, ?_⟩)); refine zDn ?_)
  refine zD ?_
  (refine pw_mv 17 21 hD rfl rfl rfl rfl rfl ?_; refine pw_norm rfl ?_)
  (repeat' (first | refine zS ?_ | refine zq5 ?_ | refine zq6 ?_))
  exact ⟨_, eIntent { i with pubs := i.pubs ++ [i.pubs.getD 0 default] }, _, rfl, ⟨j1, ⟨{ i with pubs := i.pubs ++ [i.pubs.getD 0 default] }, hi.addP (hi.pins _ (getD_memD h0)), rfl⟩, hj1, rfl⟩, by (simp only [eIntent, List.map_append, List.map_cons, List.map_nil]; (refine .inr (.inr (.inr (.inr (.inl ⟨_, _, rfl, rfl, ?_⟩)))); (repeat (first | exact True.intro | refine ⟨.inr (.inl rfl), ?_⟩ | refine ⟨.inr (.inr (.inl ⟨rfl, rfl⟩)), ?_⟩ | refine ⟨.inr (.inr (.inr (.inl ⟨_, _, _, _, _, _, rfl, rfl, rfl, rfl, rfl⟩))), ?_⟩ | refine ⟨.inr (.inr (.inr (.inl ⟨_, _, _, _, _, _, rfl, rfl, rfl, (by simp only [List.length_map, List.length_append, List.length_cons, List.length_nil]), rfl⟩))), ?_⟩)))), ⟨.inr (.inl rfl), trivial⟩, rfl, rfl⟩
 ·(repeat' (first | refine zS ?_ | refine zq5 ?_ | refine zq6 ?_))
  exact ⟨_, eIntent i, _, rfl, ⟨j1, ⟨i, hi.mono (Nat.le_add_right n 3), rfl⟩, hj1, rfl⟩, by (refine .inr (.inr (.inr (.inr (.inl ⟨_, _, rfl, rfl, ?_⟩)))); (repeat (first | exact True.intro | refine ⟨.inr (.inl rfl), ?_⟩ | refine ⟨.inr (.inr (.inl ⟨rfl, rfl⟩)), ?_⟩ | refine ⟨.inr (.inr (.inr (.inl ⟨_, _, _, _, _, _, rfl, rfl, rfl, rfl, rfl⟩))), ?_⟩ | refine ⟨.inr (.inr (.inr (.inl ⟨_, _, _, _, _, _, rfl, rfl, rfl, (by simp only [List.length_map, List.length_set, List.length_append, List.length_cons, List.length_nil]), rfl⟩))), ?_⟩))), ⟨.inr (.inl rfl), trivial⟩, rfl, rfl⟩
theorem spoil_10 (l : List Int) (hl : Tp l) : SpoilAt Gl l 10 := by
 intro j hj i n hn hi c B j0 hD hk
 have hg1 := hi.groups
 have hg2 := hi.services
 have hg3 := hi.windows
 have hg4 := hi.stms
 have hg5 := hi.pubs
 have hg6 := hi.hids
 unfold sst senv
 refine pw_code rfl ?_
 refine zNq ?_
 (repeat' (first | refine zS ?_ | refine zq5 ?_ | refine zq6 ?_))
 (refine pl_op rfl (zCl [0] e17 (c13d l hl j hj 14 (by decide)) (fun r s hq => ?_)); obtain ⟨rfl, rfl⟩ := hq; refine ⟨rfl, rfl, ?_⟩; (refine zNp ?_))
 have hj1 := nxI_le hj 14
 rw [hk]
 generalize nxI l j 14 = j1 at hj1 ⊢
 clear hk
 (repeat' (first | refine zS ?_ | refine zq5 ?_ | refine zq6 ?_))
 refine zDr [[0,1,2,3,7,8,12,14],[4],[5,6],[9],[10,11],[13,15],[16,17,18,19,20],[21],[22],[23]] ?_
 refine zDn ?_
 refine zD ?_
 (refine po_step rfl rfl (zCl [0] e17 (c13n l hl j1 hj1 3 (by decide) (by decide)) (fun r s hq => ?_)); obtain ⟨j2, ⟨m1, hm1, rfl⟩, hj2, rfl⟩ := hq; refine ⟨rfl, rfl, zLok, ?_⟩; refine zDn ?_)
 (refine po_val rfl rfl (v_index (p := .str (spL10.getD m1 [])) hT rfl rfl rfl rfl (by omega) (lit_at (.str) spL10 m1 [] hm1) rfl) ?_; refine zDn ?_)
 refine zD ?_
 (refine po_step rfl rfl (zCl [0] e17 (c13n l hl j2 hj2 3 (by decide) (by decide)) (fun r s hq => ?_)); obtain ⟨j3, ⟨m2, hm2, rfl⟩, hj3, rfl⟩ := hq; refine ⟨rfl, rfl, zLok, ?_⟩; refine zDn ?_)
 (refine po_val rfl rfl (v_index (p := .str (spL9.getD m2 [])) hT rfl rfl rfl rfl (by omega) (lit_at (.str) spL9 m2 [] hm2) rfl) ?_; refine zDn ?_)
 refine zD ?_
 (refine po_step rfl rfl (zCl [0] e57 (c22 l hl j3 hj3) (fun r s hq => ?_)); obtain ⟨j4, ⟨a1, ha1, rfl⟩, hj4, rfl⟩ := hq; refine ⟨rfl, rfl, zLok, ?_⟩; refine zDn ?_)
 (refine po_step rfl rfl (zCl [0] e17 (c13n l hl j4 hj4 8 (by decide) (by decide)) (fun r s hq => ?_)); obtain ⟨j5, ⟨m3, hm3, rfl⟩, hj5, rfl⟩ := hq; refine ⟨rfl, rfl, zLok, ?_⟩; refine zDn ?_)
 refine zD ?_
 (refine po_step rfl rfl (op_append (b := 48) hT rfl rfl rfl rfl rfl rfl (.inl (Nat.zero_lt_succ _)) rfl rfl (by simp only [List.length_map, List.length_cons, List.length_nil]; omega) (fun c1 _ hcap => ⟨zLok, ?_⟩)); refine zDn ?_)
 refine zD ?_
 (refine pw_mv 19 21 hD rfl rfl rfl rfl rfl ?_; refine pw_norm rfl ?_)
 (repeat' (first | refine zS ?_ | refine zq5 ?_ | refine zq6 ?_))
 exact ⟨_, eIntent { i with hids := i.hids ++ [⟨spL10.getD m1 [], spL9.getD m2 [], a1, ⟨1020 + (m3 : Int), 1030⟩⟩] }, _, rfl, ⟨j5, ⟨{ i with hids := i.hids ++ [⟨spL10.getD m1 [], spL9.getD m2 [], a1, ⟨1020 + (m3 : Int), 1030⟩⟩] }, hi.addH ha1, rfl⟩, hj5, rfl⟩, by (simp only [eIntent, List.map_append, List.map_cons, List.map_nil]; (refine .inr (.inr (.inr (.inr (.inl ⟨_, _, rfl, rfl, ?_⟩)))); (repeat (first | exact True.intro | refine ⟨.inr (.inl rfl), ?_⟩ | refine ⟨.inr (.inr (.inl ⟨rfl, rfl⟩)), ?_⟩ | refine ⟨.inr (.inr (.inr (.inl ⟨_, _, _, _, _, _, rfl, rfl, rfl, rfl, rfl⟩))), ?_⟩ | refine ⟨.inr (.inr (.inr (.inl ⟨_, _, _, _, _, _, rfl, rfl, rfl, (by simp only [List.length_map, List.length_append, List.length_cons, List.length_nil]), rfl⟩))), ?_⟩)))), ⟨.inr (.inl rfl), trivial⟩, rfl, rfl⟩
theorem spoil_11 (l : List Int) (hl : Tp l) : SpoilAt Gl l 11 := by
 intro j hj i n hn hi c B j0 hD hk
 have hg1 := hi.groups
 have hg2 := hi.services
 have hg3 := hi.windows
 have hg4 := hi.stms
 have hg5 := hi.pubs
 have hg6 := hi.hids
 unfold sst senv
 refine pw_code rfl ?_
 refine zNq ?_
 (repeat' (first | refine zS ?_ | refine zq5 ?_ | refine zq6 ?_))
 (refine pl_op rfl (zCl [0] e17 (c13d l hl j hj 14 (by decide)) (fun r s hq => ?_)); obtain ⟨rfl, rfl⟩ := hq; refine ⟨rfl, rfl, ?_⟩; (refine zNp ?_))
 have hj1 := nxI_le hj 14
 rw [hk]
 generalize nxI l j 14 = j1 at hj1 ⊢
 clear hk
 (repeat' (first | refine zS ?_ | refine zq5 ?_ | refine zq6 ?_))
 refine pw_room 19 rfl fun hroom => ?_
 refine zT ?_ ?_ <;> intro g <;> refine zNq ?_
 ·have h0 : 0 < i.hids.length := by simpa using g
  have hc0 : c.2.2.2.2.2 ≠ 0 := by rw [List.length_map] at hroom; omega
  have hx0 : (i.hids.map eHid)[0]? = some (eHid (i.hids.getD 0 default)) := by rw [List.getElem?_map, List.getD, List.getElem?_eq_getElem h0]; rfl
  (repeat' (first | refine zS ?_ | refine zq5 ?_ | refine zq6 ?_))
  refine zDr [[0,1,2,3,4],[5],[6],[7],[8],[9]] ?_
  refine zDn ?_
  refine zD ?_
  (refine po_val rfl rfl (v_indexm hT rfl rfl rfl rfl rfl (by decide) (by rw [List.length_map]; omega) (hc0)) ?_; refine zDn ?_)
  (refine po_step rfl rfl (op_loadE (x0 := eHid (i.hids.getD 0 default)) hT rfl rfl rfl rfl rfl (hc0) (hx0) rfl ⟨zLok, ?_⟩); refine zDn ?_)
  refine zD ?_
  (refine po_step rfl rfl (op_append (b := 48) hT rfl rfl rfl rfl rfl rfl (.inl (Nat.zero_lt_succ _)) rfl rfl (by simp only [List.length_map, List.length_cons, List.length_nil]; omega) (fun c1 _ hcap => ⟨zLok, ?_⟩)); refine zDn ?_)
  refine zD ?_
  (refine pw_mv 19 21 hD rfl rfl rfl rfl rfl ?_; refine pw_norm rfl ?_)
  (repeat' (first | refine zS ?_ | refine zq5 ?_ | refine zq6 ?_))
  exact ⟨_, eIntent { i with hids := i.hids ++ [i.hids.getD 0 default] }, _, rfl, ⟨j1, ⟨{ i with hids := i.hids ++ [i.hids.getD 0 default] }, hi.addH (hi.hins _ (getD_memD h0)), rfl⟩, hj1, rfl⟩, by (simp only [eIntent, List.map_append, List.map_cons, List.map_nil]; (refine .inr (.inr (.inr (.inr (.inl ⟨_, _, rfl, rfl, ?_⟩)))); (repeat (first | exact True.intro | refine ⟨.inr (.inl rfl), ?_⟩ | refine ⟨.inr (.inr (.inl ⟨rfl, rfl⟩)), ?_⟩ | refine ⟨.inr (.inr (.inr (.inl ⟨_, _, _, _, _, _, rfl, rfl, rfl, rfl, rfl⟩))), ?_⟩ | refine ⟨.inr (.inr (.inr (.inl ⟨_, _, _, _, _, _, rfl, rfl, rfl, (by simp only [List.length_map, List.length_append, List.length_cons, List.length_nil]), rfl⟩))), ?_⟩)))), ⟨.inr (.inl rfl), trivial⟩, rfl, rfl⟩
 ·(repeat' (first | refine zS ?_ | refine zq5 ?_ | refine zq6 ?_))
  exact ⟨_, eIntent i, _, rfl, ⟨j1, ⟨i, hi.mono (Nat.le_add_right n 3), rfl⟩, hj1, rfl⟩, by (refine .inr (.inr (.inr (.inr (.inl ⟨_, _, rfl, rfl, ?_⟩)))); (repeat (first | exact True.intro | refine ⟨.inr (.inl rfl), ?_⟩ | refine ⟨.inr (.inr (.inl ⟨rfl, rfl⟩)), ?_⟩ | refine ⟨.inr (.inr (.inr (.inl ⟨_, _, _, _, _, _, rfl, rfl, rfl, rfl, rfl⟩))), ?_⟩ | refine ⟨.inr (.inr (.inr (.inl ⟨_, _, _, _, _, _, rfl, rfl, rfl, (by simp only [List.length_map, List.length_set, List.length_append, List.length_cons, List.length_nil]), rfl⟩))), ?_⟩))), ⟨.inr (.inl rfl), trivial⟩, rfl, rfl⟩
theorem spoil_12 (l : List Int) (hl : Tp l) : SpoilAt Gl l 12 := by
 intro j hj i n hn hi c B j0 hD hk
 have hg1 := hi.groups
 have hg2 := hi.services
 have hg3 := hi.windows
 have hg4 := hi.stms
 have hg5 := hi.pubs
 have hg6 := hi.hids
 unfold sst senv
 refine pw_code rfl ?_
 refine zNq ?_
 (repeat' (first | refine zS ?_ | refine zq5 ?_ | refine zq6 ?_))
 (refine pl_op rfl (zCl [0] e17 (c13d l hl j hj 14 (by decide)) (fun r s hq => ?_)); obtain ⟨rfl, rfl⟩ := hq; refine ⟨rfl, rfl, ?_⟩; (refine zNp ?_))
 have hj1 := nxI_le hj 14
 rw [hk]
 generalize nxI l j 14 = j1 at hj1 ⊢
 clear hk
 (repeat' (first | refine zS ?_ | refine zq5 ?_ | refine zq6 ?_))
 refine pw_room 10 rfl fun hroom => ?_
 refine zT ?_ ?_ <;> intro g <;> refine zNq ?_
 ·have h0 : 0 < i.groups.length := by simpa using g
  have hc0 : c.1 ≠ 0 := by rw [List.length_map] at hroom; omega
  have hx0 : (i.groups.map eDef)[0]? = some (eDef (i.groups.getD 0 default)) := by rw [List.getElem?_map, List.getD, List.getElem?_eq_getElem h0]; rfl
  (repeat' (first | refine zS ?_ | refine zq5 ?_ | refine zq6 ?_))
  (refine pl_op rfl (op_of (v_indexm hT rfl rfl rfl rfl rfl (by decide) (by rw [List.length_map]; omega) (hc0)) ?_); (refine zNp ?_))
  (repeat' (first | refine zS ?_ | refine zq5 ?_ | refine zq6 ?_))
  (refine pl_op rfl (op_storeE' (x0 := eDef (i.groups.getD 0 default)) (x1 := .agg [.str (i.groups.getD 0 default).name, .nilsl]) (xs' := (i.groups.map eDef).set 0 (.agg [.str (i.groups.getD 0 default).name, .nilsl])) hT rfl rfl rfl rfl rfl (hc0) (hx0) rfl rfl rfl rfl (Nat.le_of_ble_eq_true rfl) rfl (rfl) ?_); (refine zNp ?_))
  refine pl_inv (fun _ _ _ hv => hv.arrLess (i := 10) rfl hc0 (nil_len h0) nil_cells (nil_less h0)) ?_
  (refine zNp ?_)
  (repeat' (first | refine zS ?_ | refine zq5 ?_ | refine zq6 ?_))
  exact ⟨_, eIntent { i with groups := i.groups.set 0 { i.groups.getD 0 default with items := [] } }, _, rfl, ⟨j1, ⟨{ i with groups := i.groups.set 0 { i.groups.getD 0 default with items := [] } }, hi.setG 0 ⟨Nat.zero_le _, fun x hx => by cases hx⟩, rfl⟩, hj1, rfl⟩, by (refine .inr (.inr (.inr (.inr (.inl ⟨_, _, rfl, rfl, ?_⟩)))); (repeat (first | exact True.intro | refine ⟨.inr (.inl rfl), ?_⟩ | refine ⟨.inr (.inr (.inl ⟨rfl, rfl⟩)), ?_⟩ | refine ⟨.inr (.inr (.inr (.inl ⟨_, _, _, _, _, _, rfl, rfl, rfl, rfl, rfl⟩))), ?_⟩ | refine ⟨.inr (.inr (.inr (.inl ⟨_, _, _, _, _, _, rfl, rfl, rfl, (by simp only [List.length_map, List.length_set]), rfl⟩))), ?_⟩))), ⟨.inr (.inl rfl), trivial⟩, rfl, rfl⟩
 ·(repeat' (first | refine zS ?_ | refine zq5 ?_ | refine zq6 ?_))
  exact ⟨_, eIntent i, _, rfl, ⟨j1, ⟨i, hi.mono (Nat.le_add_right n 3), rfl⟩, hj1, rfl⟩, by (refine .inr (.inr (.inr (.inr (.inl ⟨_, _, rfl, rfl, ?_⟩)))); (repeat (first | exact True.intro | refine ⟨.inr (.inl rfl), ?_⟩ | refine ⟨.inr (.inr (.inl ⟨rfl, rfl⟩)), ?_⟩ | refine ⟨.inr (.inr (.inr (.inl ⟨_, _, _, _, _, _, rfl, rfl, rfl, rfl, rfl⟩))), ?_⟩ | refine ⟨.inr (.inr (.inr (.inl ⟨_, _, _, _, _, _, rfl, rfl, rfl, (by simp only [List.length_map, List.length_set, List.length_append, List.length_cons, List.length_nil]), rfl⟩))), ?_⟩))), ⟨.inr (.inl rfl), trivial⟩, rfl, rfl⟩
theorem spoil_13 (l : List Int) (hl : Tp l) : SpoilAt Gl l 13 := by
 intro j hj i n hn hi c B j0 hD hk
 have hg1 := hi.groups
 have hg2 := hi.services
 have hg3 := hi.windows
 have hg4 := hi.stms
 have hg5 := hi.pubs
 have hg6 := hi.hids
 unfold sst senv
 refine pw_code rfl ?_
 refine zNq ?_
 (repeat' (first | refine zS ?_ | refine zq5 ?_ | refine zq6 ?_))
 (refine pl_op rfl (zCl [0] e17 (c13d l hl j hj 14 (by decide)) (fun r s hq => ?_)); obtain ⟨rfl, rfl⟩ := hq; refine ⟨rfl, rfl, ?_⟩; (refine zNp ?_))
 have hj1 := nxI_le hj 14
 rw [hk]
 generalize nxI l j 14 = j1 at hj1 ⊢
 clear hk
 (repeat' (first | refine zS ?_ | refine zq5 ?_ | refine zq6 ?_))
 refine pw_room 15 rfl fun hroom => ?_
 refine zT ?_ ?_ <;> intro g <;> refine zNq ?_
 ·have h0 : 0 < i.stms.length := by simpa using g
  have hc0 : c.2.2.2.1 ≠ 0 := by rw [List.length_map] at hroom; omega
  have hx0 : (i.stms.map eStm)[0]? = some (eStm (i.stms.getD 0 default)) := by rw [List.getElem?_map, List.getD, List.getElem?_eq_getElem h0]; rfl
  (repeat' (first | refine zS ?_ | refine zq5 ?_ | refine zq6 ?_))
  (refine pl_op rfl (op_sliceF (m := 1) hT rfl rfl rfl rfl rfl rfl (by rw [List.length_map]; omega) ?_ ?_); (focus (simp only [List.all_map]; exact List.all_eq_true.2 fun _ _ => rfl)); (refine zNp ?_))
  (repeat' (first | refine zS ?_ | refine zq5 ?_ | refine zq6 ?_))
  exact ⟨_, eIntent { i with stms := i.stms.drop 1 }, _, rfl, ⟨j1, ⟨{ i with stms := i.stms.drop 1 }, hi.dropT 1, rfl⟩, hj1, rfl⟩, by (simp only [eIntent, List.map_drop]; (refine .inr (.inr (.inr (.inr (.inl ⟨_, _, rfl, rfl, ?_⟩)))); (repeat (first | exact True.intro | refine ⟨.inr (.inl rfl), ?_⟩ | refine ⟨.inr (.inr (.inl ⟨rfl, rfl⟩)), ?_⟩ | refine ⟨.inr (.inr (.inr (.inl ⟨_, _, _, _, _, _, rfl, rfl, rfl, rfl, rfl⟩))), ?_⟩ | refine ⟨.inr (.inr (.inr (.inl ⟨_, _, _, _, _, _, rfl, rfl, rfl, rfl, rfl⟩))), ?_⟩)))), ⟨.inr (.inl rfl), trivial⟩, rfl, rfl⟩
 ·(repeat' (first | refine zS ?_ | refine zq5 ?_ | refine zq6 ?_))
  exact ⟨_, eIntent i, _, rfl, ⟨j1, ⟨i, hi.mono (Nat.le_add_right n 3), rfl⟩, hj1, rfl⟩, by (refine .inr (.inr (.inr (.inr (.inl ⟨_, _, rfl, rfl, ?_⟩)))); (repeat (first | exact True.intro | refine ⟨.inr (.inl rfl), ?_⟩ | refine ⟨.inr (.inr (.inl ⟨rfl, rfl⟩)), ?_⟩ | refine ⟨.inr (.inr (.inr (.inl ⟨_, _, _, _, _, _, rfl, rfl, rfl, rfl, rfl⟩))), ?_⟩ | refine ⟨.inr (.inr (.inr (.inl ⟨_, _, _, _, _, _, rfl, rfl, rfl, (by simp only [List.length_map, List.length_set, List.length_append, List.length_cons, List.length_nil]), rfl⟩))), ?_⟩))), ⟨.inr (.inl rfl), trivial⟩, rfl, rfl⟩
theorem c_spoil0 (l : List Int) (hl : Tp l) (j : Nat) (hj : j ≤ l.length) (i : TInt) (n : Nat) (hn : n < 90000) (hi : SpI n i) (h1 : nxV l j 14 ≠ 1) : Gen Gl 26 [eIntent i] l j fun r => ∃ t : TInt, SpI (n + 3) t ∧ r = eIntent t := by
 refine PCalls.of hT Tryz.func26 rfl 1 (Nat.le_refl _) fun B hD => ?_
 refine pw_norm rfl ?_
 (repeat' (first | refine zS ?_ | refine zq5 ?_ | refine zq6 ?_))
 (refine pl_op rfl (zCl [] e54 (c_copyInt i (hi.big (by omega))) (fun r s hq => ?_)); obtain ⟨c, rfl, rfl⟩ := hq; refine ⟨rfl, rfl, ?_⟩; (refine zNp ?_))
 (refine pl_op rfl (op_alloc hT rfl rfl ?_); (refine zNp ?_))
 (repeat (first | refine pl_pure hT rfl ?_ | (refine pl_op rfl (op_storeF hT rfl rfl rfl rfl rfl rfl rfl rfl (Nat.le_of_ble_eq_true rfl) ?_); (first | refine pl_norm rfl ?_ | refine pl_normE rfl ?_))))
 refine pl_nil ?_
 refine zNq ?_
 refine pw_less (st' := sst l j i (i.groups.map eDef).length (.arr 2 (i.groups.map eDef) c.1) .dead c) (env' := senv) zLe (by unfold sst; (exact zLes)) ?_
 obtain ⟨m, hm, hm14⟩ := nxV_lt (l := l) (i := j) (n := 14) (by decide)
 have hm : nxV l j 14 = (m : Int) := hm
 rw [hm] at h1
 match m, hm14, hm, h1 with
 | 0, _, hm, _ => exact spoil_0 l hl j hj i n hn hi c B j hD hm
 | 1, _, hm, h1 => exact absurd rfl h1
 | 2, _, hm, _ => exact spoil_2 l hl j hj i n hn hi c B j hD hm
 | 3, _, hm, _ => exact spoil_3 l hl j hj i n hn hi c B j hD hm
 | 4, _, hm, _ => exact spoil_4 l hl j hj i n hn hi c B j hD hm
 | 5, _, hm, _ => exact spoil_5 l hl j hj i n hn hi c B j hD hm
 | 6, _, hm, _ => exact spoil_6 l hl j hj i n hn hi c B j hD hm
 | 7, _, hm, _ => exact spoil_7 l hl j hj i n hn hi c B j hD hm
 | 8, _, hm, _ => exact spoil_8 l hl j hj i n hn hi c B j hD hm
 | 9, _, hm, _ => exact spoil_9 l hl j hj i n hn hi c B j hD hm
 | 10, _, hm, _ => exact spoil_10 l hl j hj i n hn hi c B j hD hm
 | 11, _, hm, _ => exact spoil_11 l hl j hj i n hn hi c B j hD hm
 | 12, _, hm, _ => exact spoil_12 l hl j hj i n hn hi c B j hD hm
 | 13, _, hm, _ => exact spoil_13 l hl j hj i n hn hi c B j hD hm
 | m + 14, h, _, _ => omega

end
end Go.Proofs.YtkaobkjcjodffaaGreatDoor