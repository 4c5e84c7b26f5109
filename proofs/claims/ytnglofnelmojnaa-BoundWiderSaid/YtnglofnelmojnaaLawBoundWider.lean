/- The statement BoundWider: at every input the law answers true, and leaves its arguments as they read. -/
import Derived.Test.YtnglofnelmojnaaRows
import Derived.Test.YtnglofnelmojnaaPureBoundWider
import Derived.WalkKit
import Derived.ProofKit
import Derived.OpenShut
import Derived.ShutString
import Derived.ChangeOld
import Derived.Below
import Derived.SizedLaws
import Derived.Deep.Slices
import Derived.ChangeSame
import Derived.Laws.Tables
namespace Go.Proofs.Ytnglofnelmojnaa.boundWider
open Go.ChangeShapes Go.WideShapes Go.ChangeAt Go.RowKit Go.Proofs.YtnglofnelmojnaaW.PrintWords Go.Proofs.YtnglofnelmojnaaW.PrintLast Go.Proofs.Ytnglofnelmojnaa.P
open Go.ChangeMaps (open_string shut_string)
theorem own : ownKnob Try.prog.godebug = none := by kernel_rfl
theorem laidOut : laidOutB Try.prog = true := by kernel_rfl
theorem list2 {α : Type} {l : List α} (h : l.length = 2) : ∃ x0 x1, l = [x0, x1] := by
  match l, h with
  | [x0, x1], _ => exact ⟨x0, x1, rfl⟩
theorem list3 {α : Type} {l : List α} (h : l.length = 3) : ∃ x0 x1 x2, l = [x0, x1, x2] := by
  match l, h with
  | [x0, x1, x2], _ => exact ⟨x0, x1, x2, rfl⟩
set_option maxRecDepth 100000 in
theorem lifted (os : Os) (started : os.Started) (H : Type) (enc : TypeId × Value → H) :
    ReturnsInHanded {} Try.checked os 4 .any (Rows.boundWiderSpec.pre6 enc Try.prog Try.f4 Rows.boundWiderRow.domain false) (Rows.boundWiderSpec.post enc Try.prog Try.f4 false true false false) := by
  refine returnsInHanded_of_change_sized (C := Try.checked) own started (by kernel_rfl) Try.func4
    (ChangeSpec.witness6 (enc := enc) (C := Try.checked) false ⟨#[], #[.int .i64 0, .agg #[.int .i64 0, .bool false, .int .i64 0], .agg #[.int .i64 0, .bool false, .int .i64 0], .agg #[.int .i64 0, .bool false, .int .i64 0]], []⟩ 8 (by kernel_rfl) (by kernel_rfl) (by kernel_rfl) (by kernel_rfl)) ?_
  intro W base args ds gs before hval0 hW hcnd hsz0 _
  have hsz : (DataW.weightsEach Try.prog (Try.f4.params.toList ++ Rows.boundWiderSpec.plain.varTypes Try.prog) (ds ++ gs)).all (· ≤ reachBytes) = true := hsz0
  have hval : ∀ (j : Nat) t v, Try.f4.params[j]? = some t → args[j]? = some v → Value.okWide Try.prog W .any base t v := hval0
  have hW' := hW
  obtain ⟨p, q, hA0, hV, rfl, hfz, hnd⟩ := hW
  have hA : DataW.TrodAll enc Try.prog W 0 (fun _ => true) true Try.f4.params.toList args.toList ds p := hA0
  rw [Try.params4] at hA hval hsz
  obtain ⟨v0, vs0, d0, ds0, p0, q0, hargs, rfl, rfl, h0, r0⟩ := trodAll_cons hA
  obtain ⟨v1, vs1, d1, ds1, p1, q1, rfl, rfl, rfl, h1, r1⟩ := trodAll_cons r0
  obtain ⟨v2, vs2, d2, ds2, p2, q2, rfl, rfl, rfl, h2, r2⟩ := trodAll_cons r1
  obtain ⟨v3, vs3, d3, ds3, p3, q3, rfl, rfl, rfl, h3, r3⟩ := trodAll_cons r2
  obtain ⟨rfl, rfl, rfl⟩ := trodAll_nil r3
  obtain rfl : args = #[v0, v1, v2, v3] := by cases args; simp_all
  obtain ⟨rfl, rfl⟩ := trodVars_none hV
  have k0 := h0
  have lt0 : ∀ x ∈ p0, x.block < W.heap.size := by obtain ⟨m, hm⟩ := k0; exact DataW.trod_lt m _ _ _ hm
  obtain ⟨a0, rfl, rfl, rfl, w0⟩ := open_int Try.underlying2 (hval 0 2 v0 rfl rfl) h0
  have k1 := h1
  have lt1 : ∀ x ∈ p1, x.block < W.heap.size := by obtain ⟨m, hm⟩ := k1; exact DataW.trod_lt m _ _ _ hm
  obtain ⟨cs1, rfl, hz1⟩ := okWide_struct Try.underlying27 (hval 1 27 v1 rfl rfl)
  obtain ⟨fu1, hf1⟩ := h1
  obtain ⟨cs1⟩ := cs1
  simp only [Value.cells] at hf1
  obtain ⟨xs1, n1, _, _, hl1, hlen1, hg1⟩ := DataW.trod_struct Try.underlying27 hf1
  obtain ⟨y1_0, hy1_0⟩ : ∃ y, xs1[0]? = some y := ⟨_, List.getElem?_eq_getElem (by rw [hlen1]; decide)⟩
  have z1_0 := (hg1 0 _ rfl).trans hy1_0
  obtain ⟨a1_0, e1_0, _, w1_0⟩ := DataW.trod_int Try.underlying2 z1_0
  obtain ⟨y1_1, hy1_1⟩ : ∃ y, xs1[1]? = some y := ⟨_, List.getElem?_eq_getElem (by rw [hlen1]; decide)⟩
  have z1_1 := (hg1 1 _ rfl).trans hy1_1
  obtain ⟨a1_1, e1_1, _⟩ := DataW.trod_bool Try.underlying4 z1_1
  obtain ⟨y1_2, hy1_2⟩ : ∃ y, xs1[2]? = some y := ⟨_, List.getElem?_eq_getElem (by rw [hlen1]; decide)⟩
  have z1_2 := (hg1 2 _ rfl).trans hy1_2
  obtain ⟨a1_2, e1_2, _, w1_2⟩ := DataW.trod_int Try.underlying3 z1_2
  have hz1' : cs1.length = 3 := hz1.trans (by kernel_rfl)
  obtain ⟨b1_0, b1_1, b1_2, hcs1⟩ := list3 hz1'
  subst hcs1
  have fe1_0 : [b1_0] = _ := e1_0
  obtain rfl := (List.cons.inj fe1_0).1
  have fe1_1 : [b1_1] = _ := e1_1
  obtain rfl := (List.cons.inj fe1_1).1
  have fe1_2 : [b1_2] = _ := e1_2
  obtain rfl := (List.cons.inj fe1_2).1
  have k2 := h2
  have lt2 : ∀ x ∈ p2, x.block < W.heap.size := by obtain ⟨m, hm⟩ := k2; exact DataW.trod_lt m _ _ _ hm
  obtain ⟨cs2, rfl, hz2⟩ := okWide_struct Try.underlying27 (hval 2 27 v2 rfl rfl)
  obtain ⟨fu2, hf2⟩ := h2
  obtain ⟨cs2⟩ := cs2
  simp only [Value.cells] at hf2
  obtain ⟨xs2, n2, _, _, hl2, hlen2, hg2⟩ := DataW.trod_struct Try.underlying27 hf2
  obtain ⟨y2_0, hy2_0⟩ : ∃ y, xs2[0]? = some y := ⟨_, List.getElem?_eq_getElem (by rw [hlen2]; decide)⟩
  have z2_0 := (hg2 0 _ rfl).trans hy2_0
  obtain ⟨a2_0, e2_0, _, w2_0⟩ := DataW.trod_int Try.underlying2 z2_0
  obtain ⟨y2_1, hy2_1⟩ : ∃ y, xs2[1]? = some y := ⟨_, List.getElem?_eq_getElem (by rw [hlen2]; decide)⟩
  have z2_1 := (hg2 1 _ rfl).trans hy2_1
  obtain ⟨a2_1, e2_1, _⟩ := DataW.trod_bool Try.underlying4 z2_1
  obtain ⟨y2_2, hy2_2⟩ : ∃ y, xs2[2]? = some y := ⟨_, List.getElem?_eq_getElem (by rw [hlen2]; decide)⟩
  have z2_2 := (hg2 2 _ rfl).trans hy2_2
  obtain ⟨a2_2, e2_2, _, w2_2⟩ := DataW.trod_int Try.underlying3 z2_2
  have hz2' : cs2.length = 3 := hz2.trans (by kernel_rfl)
  obtain ⟨b2_0, b2_1, b2_2, hcs2⟩ := list3 hz2'
  subst hcs2
  have fe2_0 : [b2_0] = _ := e2_0
  obtain rfl := (List.cons.inj fe2_0).1
  have fe2_1 : [b2_1] = _ := e2_1
  obtain rfl := (List.cons.inj fe2_1).1
  have fe2_2 : [b2_2] = _ := e2_2
  obtain rfl := (List.cons.inj fe2_2).1
  have k3 := h3
  have lt3 : ∀ x ∈ p3, x.block < W.heap.size := by obtain ⟨m, hm⟩ := k3; exact DataW.trod_lt m _ _ _ hm
  obtain ⟨cs3, rfl, hz3⟩ := okWide_struct Try.underlying27 (hval 3 27 v3 rfl rfl)
  obtain ⟨fu3, hf3⟩ := h3
  obtain ⟨cs3⟩ := cs3
  simp only [Value.cells] at hf3
  obtain ⟨xs3, n3, _, _, hl3, hlen3, hg3⟩ := DataW.trod_struct Try.underlying27 hf3
  obtain ⟨y3_0, hy3_0⟩ : ∃ y, xs3[0]? = some y := ⟨_, List.getElem?_eq_getElem (by rw [hlen3]; decide)⟩
  have z3_0 := (hg3 0 _ rfl).trans hy3_0
  obtain ⟨a3_0, e3_0, _, w3_0⟩ := DataW.trod_int Try.underlying2 z3_0
  obtain ⟨y3_1, hy3_1⟩ : ∃ y, xs3[1]? = some y := ⟨_, List.getElem?_eq_getElem (by rw [hlen3]; decide)⟩
  have z3_1 := (hg3 1 _ rfl).trans hy3_1
  obtain ⟨a3_1, e3_1, _⟩ := DataW.trod_bool Try.underlying4 z3_1
  obtain ⟨y3_2, hy3_2⟩ : ∃ y, xs3[2]? = some y := ⟨_, List.getElem?_eq_getElem (by rw [hlen3]; decide)⟩
  have z3_2 := (hg3 2 _ rfl).trans hy3_2
  obtain ⟨a3_2, e3_2, _, w3_2⟩ := DataW.trod_int Try.underlying3 z3_2
  have hz3' : cs3.length = 3 := hz3.trans (by kernel_rfl)
  obtain ⟨b3_0, b3_1, b3_2, hcs3⟩ := list3 hz3'
  subst hcs3
  have fe3_0 : [b3_0] = _ := e3_0
  obtain rfl := (List.cons.inj fe3_0).1
  have fe3_1 : [b3_1] = _ := e3_1
  obtain rfl := (List.cons.inj fe3_1).1
  have fe3_2 : [b3_2] = _ := e3_2
  obtain rfl := (List.cons.inj fe3_2).1
  clear hA0 hval0 hsz0 hsz
  refine (Pure.BoundWider a0 a1_0 a1_2 a2_0 a2_2 a3_0 a3_2 a1_1 a2_1 a3_1 W).mono fun e W' ⟨he, bel0⟩ => ?_
  have bel : Below W.heap.size W W' := bel0
  subst he
  exact ⟨_, rfl, _, _, _, [], _, [], hW', trodAll_mk1 (shut_bool Try.underlying4 _), (trodAll_cons_mk (Below.trod laidOut (by kernel_rfl) (of_decide_eq_true (by kernel_rfl)) k0 bel lt0) (trodAll_cons_mk (Below.trod laidOut (by kernel_rfl) (of_decide_eq_true (by kernel_rfl)) k1 bel lt1) (trodAll_cons_mk (Below.trod laidOut (by kernel_rfl) (of_decide_eq_true (by kernel_rfl)) k2 bel lt2) (trodAll_cons_mk (Below.trod laidOut (by kernel_rfl) (of_decide_eq_true (by kernel_rfl)) k3 bel lt3) trodAll_mk0)))), rfl, bel.frame _, fun h => by cases h⟩
theorem over : Rows.boundWiderRow.holds Try.pinned (OpenSpec.ofChange Rows.boundWiderSpec) :=
  OpenClaim.holds_of_wide 4 Try.f4 rfl rfl rfl rfl rfl rfl rfl ⟨rfl, rfl, rfl, rfl, rfl⟩ rfl rfl rfl rfl rfl (by kernel_rfl) Try.func4 (by kernel_rfl)
    (of_decide_eq_true (by kernel_rfl)) (by unfold Func.isWrapper; first | (rw [if_pos (by decide +kernel)]; kernel_rfl) | (rw [if_neg (by decide +kernel)]; exact ⟨rfl, rfl⟩))
    (fun os started H enc _ => lifted os started H enc)
theorem proved : Rows.BoundWiderSaid := over
#print axioms proved
end Go.Proofs.Ytnglofnelmojnaa.boundWider
namespace Go.Proofs.Ytnglofnelmojnaa
/-- The row, under a short name, for the claim. -/
theorem boundWider_holds : Rows.BoundWiderSaid := boundWider.proved
end Go.Proofs.Ytnglofnelmojnaa
