/- The statement BoundOrder: at every input the law answers true, and leaves its arguments as they read. -/
import Derived.Test.YtnglofnelmojnaaRows
import Derived.Test.YtnglofnelmojnaaPx11
import Derived.Test.YtnglofnelmojnaaPureBoundOrder
import Derived.WalkKit
import Derived.ProofKit
import Derived.OpenShut
import Derived.ShutString
import Derived.ChangeOld
import Derived.Below
import Derived.SizedLaws
import Derived.Deep.Slices
import Derived.ChangeSame
import Derived.Laws.Tables
namespace Go.Proofs.Ytnglofnelmojnaa.boundOrder
open Go.ChangeShapes Go.WideShapes Go.ChangeAt Go.RowKit Go.Proofs.YtnglofnelmojnaaW.PrintWords Go.Proofs.YtnglofnelmojnaaW.PrintLast Go.Proofs.Ytnglofnelmojnaa.P
open Go.ChangeMaps (open_string shut_string)
theorem own : ownKnob Try.prog.godebug = none := by kernel_rfl
theorem laidOut : laidOutB Try.prog = true := by kernel_rfl
theorem list2 {α : Type} {l : List α} (h : l.length = 2) : ∃ x0 x1, l = [x0, x1] := by
  match l, h with
  | [x0, x1], _ => exact ⟨x0, x1, rfl⟩
set_option maxRecDepth 100000 in
theorem lifted (os : Os) (started : os.Started) (H : Type) (enc : TypeId × Value → H) :
    ReturnsInHanded {} Try.checked os 7 .any (Rows.boundOrderSpec.pre6 enc Try.prog Try.f7 Rows.boundOrderRow.domain false) (Rows.boundOrderSpec.post enc Try.prog Try.f7 false true false false) := by
  refine returnsInHanded_of_change_sized (C := Try.checked) own started (by kernel_rfl) Try.func7
    (ChangeSpec.witness6 (enc := enc) (C := Try.checked) false ⟨#[], #[.agg #[.string ByteArray.empty, .int .i64 0], .agg #[.string ByteArray.empty, .int .i64 0], .agg #[.string ByteArray.empty, .int .i64 0]], []⟩ 8 (by kernel_rfl) (by kernel_rfl) (by kernel_rfl) (by kernel_rfl)) ?_
  intro W base args ds gs before hval0 hW hcnd hsz0 _
  have hsz : (DataW.weightsEach Try.prog (Try.f7.params.toList ++ Rows.boundOrderSpec.plain.varTypes Try.prog) (ds ++ gs)).all (· ≤ reachBytes) = true := hsz0
  have hval : ∀ (j : Nat) t v, Try.f7.params[j]? = some t → args[j]? = some v → Value.okWide Try.prog W .any base t v := hval0
  have hW' := hW
  obtain ⟨p, q, hA0, hV, rfl, hfz, hnd⟩ := hW
  have hA : DataW.TrodAll enc Try.prog W 0 (fun _ => true) true Try.f7.params.toList args.toList ds p := hA0
  rw [Try.params7] at hA hval hsz
  obtain ⟨v0, vs0, d0, ds0, p0, q0, hargs, rfl, rfl, h0, r0⟩ := trodAll_cons hA
  obtain ⟨v1, vs1, d1, ds1, p1, q1, rfl, rfl, rfl, h1, r1⟩ := trodAll_cons r0
  obtain ⟨v2, vs2, d2, ds2, p2, q2, rfl, rfl, rfl, h2, r2⟩ := trodAll_cons r1
  obtain ⟨rfl, rfl, rfl⟩ := trodAll_nil r2
  obtain rfl : args = #[v0, v1, v2] := by cases args; simp_all
  obtain ⟨rfl, rfl⟩ := trodVars_none hV
  have k0 := h0
  have lt0 : ∀ x ∈ p0, x.block < W.heap.size := by obtain ⟨m, hm⟩ := k0; exact DataW.trod_lt m _ _ _ hm
  obtain ⟨cs0, rfl, hz0⟩ := okWide_struct Try.underlying32 (hval 0 32 v0 rfl rfl)
  obtain ⟨fu0, hf0⟩ := h0
  obtain ⟨cs0⟩ := cs0
  simp only [Value.cells] at hf0
  obtain ⟨xs0, n0, _, _, hl0, hlen0, hg0⟩ := DataW.trod_struct Try.underlying32 hf0
  obtain ⟨y0_0, hy0_0⟩ : ∃ y, xs0[0]? = some y := ⟨_, List.getElem?_eq_getElem (by rw [hlen0]; decide)⟩
  have z0_0 := (hg0 0 _ rfl).trans hy0_0
  obtain ⟨a0_0, e0_0, _, w0_0⟩ := DataW.trod_string Try.underlying9 z0_0
  obtain ⟨y0_1, hy0_1⟩ : ∃ y, xs0[1]? = some y := ⟨_, List.getElem?_eq_getElem (by rw [hlen0]; decide)⟩
  have z0_1 := (hg0 1 _ rfl).trans hy0_1
  obtain ⟨a0_1, e0_1, _, w0_1⟩ := DataW.trod_int Try.underlying2 z0_1
  have hz0' : cs0.length = 2 := hz0.trans (by kernel_rfl)
  obtain ⟨b0_0, b0_1, hcs0⟩ := list2 hz0'
  subst hcs0
  have fe0_0 : [b0_0] = _ := e0_0
  obtain rfl := (List.cons.inj fe0_0).1
  have fe0_1 : [b0_1] = _ := e0_1
  obtain rfl := (List.cons.inj fe0_1).1
  have k1 := h1
  have lt1 : ∀ x ∈ p1, x.block < W.heap.size := by obtain ⟨m, hm⟩ := k1; exact DataW.trod_lt m _ _ _ hm
  obtain ⟨cs1, rfl, hz1⟩ := okWide_struct Try.underlying32 (hval 1 32 v1 rfl rfl)
  obtain ⟨fu1, hf1⟩ := h1
  obtain ⟨cs1⟩ := cs1
  simp only [Value.cells] at hf1
  obtain ⟨xs1, n1, _, _, hl1, hlen1, hg1⟩ := DataW.trod_struct Try.underlying32 hf1
  obtain ⟨y1_0, hy1_0⟩ : ∃ y, xs1[0]? = some y := ⟨_, List.getElem?_eq_getElem (by rw [hlen1]; decide)⟩
  have z1_0 := (hg1 0 _ rfl).trans hy1_0
  obtain ⟨a1_0, e1_0, _, w1_0⟩ := DataW.trod_string Try.underlying9 z1_0
  obtain ⟨y1_1, hy1_1⟩ : ∃ y, xs1[1]? = some y := ⟨_, List.getElem?_eq_getElem (by rw [hlen1]; decide)⟩
  have z1_1 := (hg1 1 _ rfl).trans hy1_1
  obtain ⟨a1_1, e1_1, _, w1_1⟩ := DataW.trod_int Try.underlying2 z1_1
  have hz1' : cs1.length = 2 := hz1.trans (by kernel_rfl)
  obtain ⟨b1_0, b1_1, hcs1⟩ := list2 hz1'
  subst hcs1
  have fe1_0 : [b1_0] = _ := e1_0
  obtain rfl := (List.cons.inj fe1_0).1
  have fe1_1 : [b1_1] = _ := e1_1
  obtain rfl := (List.cons.inj fe1_1).1
  have k2 := h2
  have lt2 : ∀ x ∈ p2, x.block < W.heap.size := by obtain ⟨m, hm⟩ := k2; exact DataW.trod_lt m _ _ _ hm
  obtain ⟨cs2, rfl, hz2⟩ := okWide_struct Try.underlying32 (hval 2 32 v2 rfl rfl)
  obtain ⟨fu2, hf2⟩ := h2
  obtain ⟨cs2⟩ := cs2
  simp only [Value.cells] at hf2
  obtain ⟨xs2, n2, _, _, hl2, hlen2, hg2⟩ := DataW.trod_struct Try.underlying32 hf2
  obtain ⟨y2_0, hy2_0⟩ : ∃ y, xs2[0]? = some y := ⟨_, List.getElem?_eq_getElem (by rw [hlen2]; decide)⟩
  have z2_0 := (hg2 0 _ rfl).trans hy2_0
  obtain ⟨a2_0, e2_0, _, w2_0⟩ := DataW.trod_string Try.underlying9 z2_0
  obtain ⟨y2_1, hy2_1⟩ : ∃ y, xs2[1]? = some y := ⟨_, List.getElem?_eq_getElem (by rw [hlen2]; decide)⟩
  have z2_1 := (hg2 1 _ rfl).trans hy2_1
  obtain ⟨a2_1, e2_1, _, w2_1⟩ := DataW.trod_int Try.underlying2 z2_1
  have hz2' : cs2.length = 2 := hz2.trans (by kernel_rfl)
  obtain ⟨b2_0, b2_1, hcs2⟩ := list2 hz2'
  subst hcs2
  have fe2_0 : [b2_0] = _ := e2_0
  obtain rfl := (List.cons.inj fe2_0).1
  have fe2_1 : [b2_1] = _ := e2_1
  obtain rfl := (List.cons.inj fe2_1).1
  obtain ⟨k, hp⟩ := Pure.BoundOrder a0_0 a0_1 a1_0 a1_1 a2_0 a2_1 w0_0 w0_1 w1_0 w1_1 w2_0 w2_1
  clear hA0 hval0 hsz0 hsz
  refine (paliolaw09_BoundOrder.calls k a0_0 a0_1 a1_0 a1_1 a2_0 a2_1 true W  hp).mono fun e W' ⟨he, bel0⟩ => ?_
  have bel : Below W.heap.size W W' := bel0
  subst he
  exact ⟨_, rfl, _, _, _, [], _, [], hW', trodAll_mk1 (shut_bool Try.underlying4 _), (trodAll_cons_mk (Below.trod laidOut (by kernel_rfl) (of_decide_eq_true (by kernel_rfl)) k0 bel lt0) (trodAll_cons_mk (Below.trod laidOut (by kernel_rfl) (of_decide_eq_true (by kernel_rfl)) k1 bel lt1) (trodAll_cons_mk (Below.trod laidOut (by kernel_rfl) (of_decide_eq_true (by kernel_rfl)) k2 bel lt2) trodAll_mk0))), rfl, bel.frame _, fun h => by cases h⟩
theorem over : Rows.boundOrderRow.holds Try.pinned (OpenSpec.ofChange Rows.boundOrderSpec) :=
  OpenClaim.holds_of_wide 7 Try.f7 rfl rfl rfl rfl rfl rfl rfl ⟨rfl, rfl, rfl, rfl, rfl⟩ rfl rfl rfl rfl rfl (by kernel_rfl) Try.func7 (by kernel_rfl)
    (of_decide_eq_true (by kernel_rfl)) (by unfold Func.isWrapper; first | (rw [if_pos (by decide +kernel)]; kernel_rfl) | (rw [if_neg (by decide +kernel)]; exact ⟨rfl, rfl⟩))
    (fun os started H enc _ => lifted os started H enc)
theorem proved : Rows.BoundOrderSaid := over
#print axioms proved
end Go.Proofs.Ytnglofnelmojnaa.boundOrder
namespace Go.Proofs.Ytnglofnelmojnaa
/-- The row, under a short name, for the claim. -/
theorem boundOrder_holds : Rows.BoundOrderSaid := boundOrder.proved
end Go.Proofs.Ytnglofnelmojnaa
