/- The statement SkipNone: at every input the law answers true, and leaves its arguments as they read. -/
import Derived.Test.YtnlbdmiflihghaaRows
import Derived.Test.YtnlbdmiflihghaaPL7
import Derived.Test.YtnlbdmiflihghaaPureSkipNone
import Derived.WalkKit
import Derived.ProofKit
import Derived.OpenShut
import Derived.ShutString
import Derived.ChangeOld
import Derived.Below
import Derived.SizedLaws
import Derived.Deep.Slices
import Derived.ChangeSame
import Derived.Laws.Tables
namespace Go.Proofs.Ytnlbdmiflihghaa.skipNone
open Go.ChangeShapes Go.WideShapes Go.ChangeAt Go.RowKit Go.Proofs.YtnlbdmiflihghaaW.PrintWords Go.Proofs.YtnlbdmiflihghaaW.PrintLast Go.Proofs.Ytnlbdmiflihghaa.P
open Go.ChangeMaps (open_string shut_string)
theorem own : ownKnob Try.prog.godebug = none := by kernel_rfl
theorem laidOut : laidOutB Try.prog = true := by kernel_rfl
theorem list6 {α : Type} {l : List α} (h : l.length = 6) : ∃ x0 x1 x2 x3 x4 x5, l = [x0, x1, x2, x3, x4, x5] := by
  match l, h with
  | [x0, x1, x2, x3, x4, x5], _ => exact ⟨x0, x1, x2, x3, x4, x5, rfl⟩
set_option maxRecDepth 100000 in
theorem lifted (os : Os) (started : os.Started) (H : Type) (enc : TypeId × Value → H) :
    ReturnsInHanded {} Try.checked os 9 .any (Rows.skipNoneSpec.pre6 enc Try.prog Try.f9 Rows.skipNoneRow.domain false) (Rows.skipNoneSpec.post enc Try.prog Try.f9 false true false false) := by
  refine returnsInHanded_of_change_sized (C := Try.checked) own started (by kernel_rfl) Try.func9
    (ChangeSpec.witness6 (enc := enc) (C := Try.checked) false ⟨#[], #[.agg #[.int .i64 0, .string ByteArray.empty, .int .i64 0, .int .i64 0, .int .i64 0, .int .i64 0]], []⟩ 8 (by kernel_rfl) (by kernel_rfl) (by kernel_rfl) (by kernel_rfl)) ?_
  intro W base args ds gs before hval0 hW hcnd hsz0 _
  have hsz : (DataW.weightsEach Try.prog (Try.f9.params.toList ++ Rows.skipNoneSpec.plain.varTypes Try.prog) (ds ++ gs)).all (· ≤ reachBytes) = true := hsz0
  have hval : ∀ (j : Nat) t v, Try.f9.params[j]? = some t → args[j]? = some v → Value.okWide Try.prog W .any base t v := hval0
  have hW' := hW
  obtain ⟨p, q, hA0, hV, rfl, hfz, hnd⟩ := hW
  have hA : DataW.TrodAll enc Try.prog W 0 (fun _ => true) true Try.f9.params.toList args.toList ds p := hA0
  rw [Try.params9] at hA hval hsz
  obtain ⟨v0, vs0, d0, ds0, p0, q0, hargs, rfl, rfl, h0, r0⟩ := trodAll_cons hA
  obtain ⟨rfl, rfl, rfl⟩ := trodAll_nil r0
  obtain rfl : args = #[v0] := by cases args; simp_all
  obtain ⟨rfl, rfl⟩ := trodVars_none hV
  have k0 := h0
  have lt0 : ∀ x ∈ p0, x.block < W.heap.size := by obtain ⟨m, hm⟩ := k0; exact DataW.trod_lt m _ _ _ hm
  obtain ⟨cs0, rfl, hz0⟩ := okWide_struct Try.underlying40 (hval 0 40 v0 rfl rfl)
  obtain ⟨fu0, hf0⟩ := h0
  obtain ⟨cs0⟩ := cs0
  simp only [Value.cells] at hf0
  obtain ⟨xs0, n0, _, _, hl0, hlen0, hg0⟩ := DataW.trod_struct Try.underlying40 hf0
  obtain ⟨y0_0, hy0_0⟩ : ∃ y, xs0[0]? = some y := ⟨_, List.getElem?_eq_getElem (by rw [hlen0]; decide)⟩
  have z0_0 := (hg0 0 _ rfl).trans hy0_0
  obtain ⟨a0_0, e0_0, _, w0_0⟩ := DataW.trod_int Try.underlying3 z0_0
  obtain ⟨y0_1, hy0_1⟩ : ∃ y, xs0[1]? = some y := ⟨_, List.getElem?_eq_getElem (by rw [hlen0]; decide)⟩
  have z0_1 := (hg0 1 _ rfl).trans hy0_1
  obtain ⟨xs0_1, n0_1, _, _, hl0_1, hlen0_1, hg0_1⟩ := DataW.trod_struct Try.underlying28 z0_1
  obtain ⟨y0_1_0, hy0_1_0⟩ : ∃ y, xs0_1[0]? = some y := ⟨_, List.getElem?_eq_getElem (by rw [hlen0_1]; decide)⟩
  have z0_1_0 := (hg0_1 0 _ rfl).trans hy0_1_0
  obtain ⟨a0_1, e0_1_0, _, w0_1_0⟩ := DataW.trod_string Try.underlying9 z0_1_0
  obtain ⟨y0_1_1, hy0_1_1⟩ : ∃ y, xs0_1[1]? = some y := ⟨_, List.getElem?_eq_getElem (by rw [hlen0_1]; decide)⟩
  have z0_1_1 := (hg0_1 1 _ rfl).trans hy0_1_1
  obtain ⟨a0_2, e0_1_1, _, w0_1_1⟩ := DataW.trod_int Try.underlying2 z0_1_1
  obtain ⟨y0_2, hy0_2⟩ : ∃ y, xs0[2]? = some y := ⟨_, List.getElem?_eq_getElem (by rw [hlen0]; decide)⟩
  have z0_2 := (hg0 2 _ rfl).trans hy0_2
  obtain ⟨a0_3, e0_2, _, w0_2⟩ := DataW.trod_int Try.underlying3 z0_2
  obtain ⟨y0_3, hy0_3⟩ : ∃ y, xs0[3]? = some y := ⟨_, List.getElem?_eq_getElem (by rw [hlen0]; decide)⟩
  have z0_3 := (hg0 3 _ rfl).trans hy0_3
  obtain ⟨a0_4, e0_3, _, w0_3⟩ := DataW.trod_int Try.underlying3 z0_3
  obtain ⟨y0_4, hy0_4⟩ : ∃ y, xs0[4]? = some y := ⟨_, List.getElem?_eq_getElem (by rw [hlen0]; decide)⟩
  have z0_4 := (hg0 4 _ rfl).trans hy0_4
  obtain ⟨a0_5, e0_4, _, w0_4⟩ := DataW.trod_int Try.underlying3 z0_4
  have hz0' : cs0.length = 6 := hz0.trans (by kernel_rfl)
  obtain ⟨b0_0, b0_1, b0_2, b0_3, b0_4, b0_5, hcs0⟩ := list6 hz0'
  subst hcs0
  have fe0_0 : [b0_0] = _ := e0_0
  obtain rfl := (List.cons.inj fe0_0).1
  have fe0_1_0 : [b0_1] = _ := e0_1_0
  obtain rfl := (List.cons.inj fe0_1_0).1
  have fe0_1_1 : [b0_2] = _ := e0_1_1
  obtain rfl := (List.cons.inj fe0_1_1).1
  have fe0_2 : [b0_3] = _ := e0_2
  obtain rfl := (List.cons.inj fe0_2).1
  have fe0_3 : [b0_4] = _ := e0_3
  obtain rfl := (List.cons.inj fe0_3).1
  have fe0_4 : [b0_5] = _ := e0_4
  obtain rfl := (List.cons.inj fe0_4).1
  have hp := Pure.SkipNone a0_0 a0_1 a0_2 a0_3 a0_4 a0_5 w0_0 w0_1_0 w0_1_1 w0_2 w0_3 w0_4
  clear hA0 hval0 hsz0 hsz
  refine (paliolaw10_SkipNone.calls a0_0 a0_1 a0_2 a0_3 a0_4 a0_5 true W  hp).mono fun e W' ⟨he, bel0⟩ => ?_
  have bel : Below W.heap.size W W' := bel0
  subst he
  exact ⟨_, rfl, _, _, _, [], _, [], hW', trodAll_mk1 (shut_bool Try.underlying4 _), (trodAll_cons_mk (Below.trod laidOut (by kernel_rfl) (of_decide_eq_true (by kernel_rfl)) k0 bel lt0) trodAll_mk0), rfl, bel.frame _, fun h => by cases h⟩
theorem over : Rows.skipNoneRow.holds Try.pinned (OpenSpec.ofChange Rows.skipNoneSpec) :=
  OpenClaim.holds_of_wide 9 Try.f9 rfl rfl rfl rfl rfl rfl rfl ⟨rfl, rfl, rfl, rfl, rfl⟩ rfl rfl rfl rfl rfl (by kernel_rfl) Try.func9 (by kernel_rfl)
    (of_decide_eq_true (by kernel_rfl)) (by unfold Func.isWrapper; first | (rw [if_pos (by decide +kernel)]; kernel_rfl) | (rw [if_neg (by decide +kernel)]; exact ⟨rfl, rfl⟩))
    (fun os started H enc _ => lifted os started H enc)
theorem proved : Rows.SkipNoneSaid := over
#print axioms proved
end Go.Proofs.Ytnlbdmiflihghaa.skipNone
namespace Go.Proofs.Ytnlbdmiflihghaa
/-- The row, under a short name, for the claim. -/
theorem skipNone_holds : Rows.SkipNoneSaid := skipNone.proved
end Go.Proofs.Ytnlbdmiflihghaa
