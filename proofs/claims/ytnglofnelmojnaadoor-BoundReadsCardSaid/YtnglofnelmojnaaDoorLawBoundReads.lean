/- The statement BoundReads: at every input the law answers true, and leaves its arguments as they read. -/
import Derived.Test.YtnglofnelmojnaaDoorRows
import Derived.Test.YtnglofnelmojnaaDoorCards
import Derived.Test.YtnglofnelmojnaaDoorTie
import Derived.Test.YtnglofnelmojnaaDoorPureBoundReads
import Derived.LaidMore
import Derived.Stop.Joined
import Derived.Lib.LaidTab
import Derived.SevenTiedAt
import Derived.WalkKit
import Derived.ProofKit
import Derived.OpenShut
import Derived.ShutString
import Derived.ChangeOld
import Derived.Below
import Derived.SizedLaws
import Derived.Deep.Slices
import Derived.ChangeSame
import Derived.Laws.Tables
namespace Go.Proofs.YtnglofnelmojnaaDoor.boundReads
open Go.ChangeShapes Go.WideShapes Go.ChangeAt Go.RowKit Go.Proofs.YtnglofnelmojnaaDoorW.PrintWords Go.Proofs.YtnglofnelmojnaaDoorW.PrintLast Go.Proofs.YtnglofnelmojnaaDoor.P
open Go.ChangeMaps (open_string shut_string)
theorem own : ownKnob Tryd.prog.godebug = none := by kernel_rfl
theorem laidOut : laidOutB Tryd.prog = true := by kernel_rfl
theorem list3 {α : Type} {l : List α} (h : l.length = 3) : ∃ x0 x1 x2, l = [x0, x1, x2] := by
  match l, h with
  | [x0, x1, x2], _ => exact ⟨x0, x1, x2, rfl⟩
def laid3 : List (String × DataW Unit) := [("math/bits.deBruijn32tab", Rows.laid_math_bits_deBruijn32tab), ("math/bits.deBruijn64tab", Rows.laid_math_bits_deBruijn64tab), ("internal/strconv.uint64pow10", Rows.laid_internal_strconv_uint64pow10)]
theorem door_met (os : Os) (args : Array Value) : laidMetH Tryd.prog laid3 ((World.doorLaid Tryd.prog 4000 os).forCall (fun _ _ => 0) ⟨#[], args, []⟩).memory :=
  laidMetH_of_parts3 (fuel := 8) (laidMet_of_run' 8 (by kernel_rfl) (by kernel_rfl)) (by kernel_rfl) (by kernel_rfl)
theorem g_tab : (Tryd.prog.globals[0]?).map (·.type) = some 82 := by kernel_rfl
/-- What the condition gives the walks: the table of powers of ten. -/
theorem tab_of {W : World} (h : laidMetH Tryd.prog laid3 W) : Tab W := by
  rw [MakeChecks.laidMetH_plain _ _ _ (by kernel_rfl)] at h
  obtain ⟨ps, ⟨_, _, _, _, _, _, _, _, _, _, ⟨_, _, _, _, _, _, _, _, _, _, ⟨g', t', cs, fuel, p, q, hg', ht', hvar, hd, _, _⟩, _⟩, _⟩, _⟩ := h
  obtain rfl := Option.some.inj (tab_global.symm.trans hg')
  obtain rfl := Option.some.inj (g_tab.symm.trans ht')
  unfold Tab Lib.TabIs
  rw [hvar, ← Lib.cells_of_tab (k := .u64) (zs := Lib.pow10Tab) Tryd.underlying82 Tryd.underlying53 (by kernel_rfl) (by kernel_rfl) hd]
set_option maxRecDepth 100000 in
theorem lifted (os : Os) (started : os.Started) (H : Type) (enc : TypeId × Value → H) :
    ReturnsInHanded {} Tryd.checked os 3 .any (fun w args => (Rows.boundReadsSpec.pre enc Tryd.prog Tryd.f3 [] false w args ∧ laidMetH Tryd.prog laid3 w) ∧ sizedMet enc Tryd.prog Tryd.f3 (OpenSpec.ofChange Rows.boundReadsSpec) false w args)
      (Rows.boundReadsSpec.post enc Tryd.prog Tryd.f3 false true false false) := by
  refine returnsInHanded_of_change_and (C := Tryd.checked) (X := fun w _ => laidMetH Tryd.prog laid3 w) (fun _ _ _ hh h => h.of_heap hh) own started (by kernel_rfl) Tryd.func3
    (ChangeSpec.witness_shaped (enc := enc) (C := Tryd.checked) (os := os) (X := fun w _ => laidMetH Tryd.prog laid3 w) false (World.doorLaid Tryd.prog 4000 os) #[.string ByteArray.empty, .agg #[.int .i64 0, .bool false, .int .i64 0]] 8 rfl (World.shaped_of_RefB (by kernel_rfl) (by kernel_rfl)) (by kernel_rfl) (by kernel_rfl) (by kernel_rfl) (door_met os _)) ?_
  intro W base args ds gs before hval0 hW _ _ hL _
  have htab := tab_of hL
  have hval : ∀ (j : Nat) t v, Tryd.f3.params[j]? = some t → args[j]? = some v → Value.okWide Tryd.prog W .any base t v := hval0
  have hW' := hW
  obtain ⟨p, q, hA0, hV, rfl, hfz, hnd⟩ := hW
  have hA : DataW.TrodAll enc Tryd.prog W 0 (fun _ => true) true Tryd.f3.params.toList args.toList ds p := hA0
  rw [Tryd.params3] at hA hval
  obtain ⟨v0, vs0, d0, ds0, p0, q0, hargs, rfl, rfl, h0, r0⟩ := trodAll_cons hA
  obtain ⟨v1, vs1, d1, ds1, p1, q1, rfl, rfl, rfl, h1, r1⟩ := trodAll_cons r0
  obtain ⟨rfl, rfl, rfl⟩ := trodAll_nil r1
  obtain rfl : args = #[v0, v1] := by cases args; simp_all
  obtain ⟨rfl, rfl⟩ := trodVars_none hV
  have k0 := h0
  have lt0 : ∀ x ∈ p0, x.block < W.heap.size := by obtain ⟨m, hm⟩ := k0; exact DataW.trod_lt m _ _ _ hm
  obtain ⟨a0, rfl, rfl, rfl, y0⟩ := open_string Tryd.underlying9 (hval 0 9 v0 rfl rfl) h0
  have k1 := h1
  have lt1 : ∀ x ∈ p1, x.block < W.heap.size := by obtain ⟨m, hm⟩ := k1; exact DataW.trod_lt m _ _ _ hm
  obtain ⟨cs1, rfl, hz1⟩ := okWide_struct Tryd.underlying23 (hval 1 23 v1 rfl rfl)
  obtain ⟨fu1, hf1⟩ := h1
  obtain ⟨cs1⟩ := cs1
  simp only [Value.cells] at hf1
  obtain ⟨xs1, n1, _, _, hl1, hlen1, hg1⟩ := DataW.trod_struct Tryd.underlying23 hf1
  obtain ⟨y1_0, hy1_0⟩ : ∃ y, xs1[0]? = some y := ⟨_, List.getElem?_eq_getElem (by rw [hlen1]; decide)⟩
  have z1_0 := (hg1 0 _ rfl).trans hy1_0
  obtain ⟨a1_0, e1_0, _, w1_0⟩ := DataW.trod_int Tryd.underlying2 z1_0
  obtain ⟨y1_1, hy1_1⟩ : ∃ y, xs1[1]? = some y := ⟨_, List.getElem?_eq_getElem (by rw [hlen1]; decide)⟩
  have z1_1 := (hg1 1 _ rfl).trans hy1_1
  obtain ⟨a1_1, e1_1, _⟩ := DataW.trod_bool Tryd.underlying4 z1_1
  obtain ⟨y1_2, hy1_2⟩ : ∃ y, xs1[2]? = some y := ⟨_, List.getElem?_eq_getElem (by rw [hlen1]; decide)⟩
  have z1_2 := (hg1 2 _ rfl).trans hy1_2
  obtain ⟨a1_2, e1_2, _, w1_2⟩ := DataW.trod_int Tryd.underlying3 z1_2
  have hz1' : cs1.length = 3 := hz1.trans (by kernel_rfl)
  obtain ⟨b1_0, b1_1, b1_2, hcs1⟩ := list3 hz1'
  subst hcs1
  have fe1_0 : [b1_0] = _ := e1_0
  obtain rfl := (List.cons.inj fe1_0).1
  have fe1_1 : [b1_1] = _ := e1_1
  obtain rfl := (List.cons.inj fe1_1).1
  have fe1_2 : [b1_2] = _ := e1_2
  obtain rfl := (List.cons.inj fe1_2).1
  clear hA0 hval0
  refine (paliolaw09_BoundReads.calls 132 a0 a1_0 a1_1 a1_2 true W htab (reads_pure a0 a1_0 a1_1 a1_2 (wf_lo w1_0) (wf_hi w1_0))).mono fun e W' ⟨he, bel0⟩ => ?_
  have bel : Below W.heap.size W W' := bel0
  subst he
  exact ⟨_, rfl, _, _, _, [], _, [], hW', trodAll_mk1 (shut_bool Tryd.underlying4 _), (trodAll_cons_mk (Below.trod laidOut (by kernel_rfl) (of_decide_eq_true (by kernel_rfl)) k0 bel lt0) (trodAll_cons_mk (Below.trod laidOut (by kernel_rfl) (of_decide_eq_true (by kernel_rfl)) k1 bel lt1) trodAll_mk0)), rfl, bel.frame _, fun h => by cases h⟩
theorem over : Rows.boundReadsRow.holds Tryd.pinned (OpenSpec.ofChange Rows.boundReadsSpec) :=
  OpenClaim.holds_of_wide 3 Tryd.f3 rfl rfl rfl rfl rfl rfl rfl ⟨rfl, rfl, rfl, rfl, rfl⟩ rfl rfl rfl rfl rfl (by kernel_rfl) Tryd.func3 (by kernel_rfl)
    (of_decide_eq_true (by kernel_rfl)) (by unfold Func.isWrapper; first | (rw [if_pos (by decide +kernel)]; kernel_rfl) | (rw [if_neg (by decide +kernel)]; exact ⟨rfl, rfl⟩))
    (fun os started H enc _ => lifted os started H enc)
theorem proved : Rows.BoundReadsSaid := over
#print axioms proved
theorem card : Rows.BoundReadsCardSaid :=
  Claim7.holds_tied_plain_at .later [] [.data, .data, .data] true (true, "ac6d7e7f1432234d64d22bab679ed4257a2371f78083aa67fc4e5329c19dd310") true
    proved (fun _ h => by cases h) (by kernel_rfl) (fun _ h => by cases h) boundReads_row_tie rfl ⟨rfl, rfl⟩ (by kernel_rfl) rfl
    (fun f fn hf hfn => by
      obtain rfl : f = 3 := Option.some.inj ((show Tryd.prog.funcNamed "palio/paliolaw09.BoundReads" = some 3 by kernel_rfl).symm.trans hf) |>.symm
      obtain rfl : fn = Tryd.f3 := (Option.some.inj (Tryd.func3.symm.trans hfn)).symm
      exact ⟨by kernel_rfl, fun j t ht => by
        rw [Tryd.params3] at ht
        have hm : t ∈ [9,23] := by simpa using Array.mem_of_getElem? ht
        have hall : ([9,23].all fun u => !Tryd.prog.wantsStandIn u) = true := by kernel_rfl
        exact (show Tryd.prog.wantsStandIn t = false by simpa using List.all_eq_true.1 hall t hm)⟩)
    (by kernel_rfl)
end Go.Proofs.YtnglofnelmojnaaDoor.boundReads
namespace Go.Proofs.YtnglofnelmojnaaDoor
/-- The card, under a short name, for the claim. -/
theorem boundReadsCard_holds : Rows.BoundReadsCardSaid := boundReads.card
end Go.Proofs.YtnglofnelmojnaaDoor
