/- The statement BoundBack: at every input the law answers true, and leaves its arguments as they read. -/
import Derived.Test.YtnglofnelmojnaaDoorRows
import Derived.Test.YtnglofnelmojnaaDoorCards
import Derived.Test.YtnglofnelmojnaaDoorTie
import Derived.Test.YtnglofnelmojnaaDoorPureBoundBack
import Derived.LaidMore
import Derived.Stop.Joined
import Derived.Lib.LaidTab
import Derived.SevenTiedAt
import Derived.WalkKit
import Derived.ProofKit
import Derived.OpenShut
import Derived.ShutString
import Derived.ChangeOld
import Derived.Below
import Derived.SizedLaws
import Derived.Deep.Slices
import Derived.ChangeSame
import Derived.Laws.Tables
namespace Go.Proofs.YtnglofnelmojnaaDoor.boundBack
open Go.ChangeShapes Go.WideShapes Go.ChangeAt Go.RowKit Go.Proofs.YtnglofnelmojnaaDoorW.PrintWords Go.Proofs.YtnglofnelmojnaaDoorW.PrintLast Go.Proofs.YtnglofnelmojnaaDoor.P
open Go.ChangeMaps (open_string shut_string)
theorem own : ownKnob Tryd.prog.godebug = none := by kernel_rfl
theorem laidOut : laidOutB Tryd.prog = true := by kernel_rfl
theorem list3 {α : Type} {l : List α} (h : l.length = 3) : ∃ x0 x1 x2, l = [x0, x1, x2] := by
  match l, h with
  | [x0, x1, x2], _ => exact ⟨x0, x1, x2, rfl⟩
def laid3 : List (String × DataW Unit) := [("math/bits.deBruijn32tab", Rows.laid_math_bits_deBruijn32tab), ("math/bits.deBruijn64tab", Rows.laid_math_bits_deBruijn64tab), ("internal/strconv.uint64pow10", Rows.laid_internal_strconv_uint64pow10)]
theorem door_met (os : Os) (args : Array Value) : laidMetH Tryd.prog laid3 ((World.doorLaid Tryd.prog 4000 os).forCall (fun _ _ => 0) ⟨#[], args, []⟩).memory :=
  laidMetH_of_parts3 (fuel := 8) (laidMet_of_run' 8 (by kernel_rfl) (by kernel_rfl)) (by kernel_rfl) (by kernel_rfl)
theorem g_tab : (Tryd.prog.globals[0]?).map (·.type) = some 82 := by kernel_rfl
/-- What the condition gives the walks: the table of powers of ten. -/
theorem tab_of {W : World} (h : laidMetH Tryd.prog laid3 W) : Tab W := by
  rw [MakeChecks.laidMetH_plain _ _ _ (by kernel_rfl)] at h
  obtain ⟨ps, ⟨_, _, _, _, _, _, _, _, _, _, ⟨_, _, _, _, _, _, _, _, _, _, ⟨g', t', cs, fuel, p, q, hg', ht', hvar, hd, _, _⟩, _⟩, _⟩, _⟩ := h
  obtain rfl := Option.some.inj (tab_global.symm.trans hg')
  obtain rfl := Option.some.inj (g_tab.symm.trans ht')
  unfold Tab Lib.TabIs
  rw [hvar, ← Lib.cells_of_tab (k := .u64) (zs := Lib.pow10Tab) Tryd.underlying82 Tryd.underlying53 (by kernel_rfl) (by kernel_rfl) hd]
set_option maxRecDepth 100000 in
theorem lifted (os : Os) (started : os.Started) (H : Type) (enc : TypeId × Value → H) :
    ReturnsInHanded {} Tryd.checked os 4 .any (fun w args => (Rows.boundBackSpec.pre enc Tryd.prog Tryd.f4 [] false w args ∧ laidMetH Tryd.prog laid3 w) ∧ sizedMet enc Tryd.prog Tryd.f4 (OpenSpec.ofChange Rows.boundBackSpec) false w args)
      (Rows.boundBackSpec.post enc Tryd.prog Tryd.f4 false true false false) := by
  refine returnsInHanded_of_change_and (C := Tryd.checked) (X := fun w _ => laidMetH Tryd.prog laid3 w) (fun _ _ _ hh h => h.of_heap hh) own started (by kernel_rfl) Tryd.func4
    (ChangeSpec.witness_shaped (enc := enc) (C := Tryd.checked) (os := os) (X := fun w _ => laidMetH Tryd.prog laid3 w) false (World.doorLaid Tryd.prog 4000 os) #[.string ByteArray.empty, .agg #[.int .i64 0, .bool false, .int .i64 0], .agg #[.string ByteArray.empty, .bool false, .int .i64 0]] 8 rfl (World.shaped_of_RefB (by kernel_rfl) (by kernel_rfl)) (by kernel_rfl) (by kernel_rfl) (by kernel_rfl) (door_met os _)) ?_
  intro W base args ds gs before hval0 hW _ hsz0 hL _
  have htab := tab_of hL
  have hsz : (DataW.weightsEach Tryd.prog (Tryd.f4.params.toList ++ Rows.boundBackSpec.plain.varTypes Tryd.prog) (ds ++ gs)).all (· ≤ reachBytes) = true := hsz0
  have hval : ∀ (j : Nat) t v, Tryd.f4.params[j]? = some t → args[j]? = some v → Value.okWide Tryd.prog W .any base t v := hval0
  have hW' := hW
  obtain ⟨p, q, hA0, hV, rfl, hfz, hnd⟩ := hW
  have hA : DataW.TrodAll enc Tryd.prog W 0 (fun _ => true) true Tryd.f4.params.toList args.toList ds p := hA0
  rw [Tryd.params4] at hA hval hsz
  obtain ⟨v0, vs0, d0, ds0, p0, q0, hargs, rfl, rfl, h0, r0⟩ := trodAll_cons hA
  obtain ⟨v1, vs1, d1, ds1, p1, q1, rfl, rfl, rfl, h1, r1⟩ := trodAll_cons r0
  obtain ⟨v2, vs2, d2, ds2, p2, q2, rfl, rfl, rfl, h2, r2⟩ := trodAll_cons r1
  obtain ⟨rfl, rfl, rfl⟩ := trodAll_nil r2
  obtain rfl : args = #[v0, v1, v2] := by cases args; simp_all
  obtain ⟨rfl, rfl⟩ := trodVars_none hV
  have k0 := h0
  have lt0 : ∀ x ∈ p0, x.block < W.heap.size := by obtain ⟨m, hm⟩ := k0; exact DataW.trod_lt m _ _ _ hm
  obtain ⟨a0, rfl, rfl, rfl, y0⟩ := open_string Tryd.underlying9 (hval 0 9 v0 rfl rfl) h0
  have k1 := h1
  have lt1 : ∀ x ∈ p1, x.block < W.heap.size := by obtain ⟨m, hm⟩ := k1; exact DataW.trod_lt m _ _ _ hm
  obtain ⟨cs1, rfl, hz1⟩ := okWide_struct Tryd.underlying23 (hval 1 23 v1 rfl rfl)
  obtain ⟨fu1, hf1⟩ := h1
  obtain ⟨cs1⟩ := cs1
  simp only [Value.cells] at hf1
  obtain ⟨xs1, n1, _, _, hl1, hlen1, hg1⟩ := DataW.trod_struct Tryd.underlying23 hf1
  obtain ⟨y1_0, hy1_0⟩ : ∃ y, xs1[0]? = some y := ⟨_, List.getElem?_eq_getElem (by rw [hlen1]; decide)⟩
  have z1_0 := (hg1 0 _ rfl).trans hy1_0
  obtain ⟨a1_0, e1_0, _, w1_0⟩ := DataW.trod_int Tryd.underlying2 z1_0
  obtain ⟨y1_1, hy1_1⟩ : ∃ y, xs1[1]? = some y := ⟨_, List.getElem?_eq_getElem (by rw [hlen1]; decide)⟩
  have z1_1 := (hg1 1 _ rfl).trans hy1_1
  obtain ⟨a1_1, e1_1, _⟩ := DataW.trod_bool Tryd.underlying4 z1_1
  obtain ⟨y1_2, hy1_2⟩ : ∃ y, xs1[2]? = some y := ⟨_, List.getElem?_eq_getElem (by rw [hlen1]; decide)⟩
  have z1_2 := (hg1 2 _ rfl).trans hy1_2
  obtain ⟨a1_2, e1_2, _, w1_2⟩ := DataW.trod_int Tryd.underlying3 z1_2
  have hz1' : cs1.length = 3 := hz1.trans (by kernel_rfl)
  obtain ⟨b1_0, b1_1, b1_2, hcs1⟩ := list3 hz1'
  subst hcs1
  have fe1_0 : [b1_0] = _ := e1_0
  obtain rfl := (List.cons.inj fe1_0).1
  have fe1_1 : [b1_1] = _ := e1_1
  obtain rfl := (List.cons.inj fe1_1).1
  have fe1_2 : [b1_2] = _ := e1_2
  obtain rfl := (List.cons.inj fe1_2).1
  have k2 := h2
  have lt2 : ∀ x ∈ p2, x.block < W.heap.size := by obtain ⟨m, hm⟩ := k2; exact DataW.trod_lt m _ _ _ hm
  obtain ⟨cs2, rfl, hz2⟩ := okWide_struct Tryd.underlying33 (hval 2 33 v2 rfl rfl)
  obtain ⟨fu2, hf2⟩ := h2
  obtain ⟨cs2⟩ := cs2
  simp only [Value.cells] at hf2
  obtain ⟨xs2, n2, _, hx2, hl2, hlen2, hg2⟩ := DataW.trod_struct Tryd.underlying33 hf2
  obtain ⟨y2_0, hy2_0⟩ : ∃ y, xs2[0]? = some y := ⟨_, List.getElem?_eq_getElem (by rw [hlen2]; decide)⟩
  have z2_0 := (hg2 0 _ rfl).trans hy2_0
  obtain ⟨a2_0, e2_0, x2_0, _⟩ := DataW.trod_string Tryd.underlying9 z2_0
  have w2_0 : a2_0.size ≤ 1000000000000000 := by
    have hd : d2 = .agg (xs2.map (·.1)) := (Prod.mk.inj hx2).1
    have z := sized_field hsz (j := 2) (i := 0) (t := 33) rfl (congrArg some hd) Tryd.underlying33 rfl (by rw [List.getElem?_map, hy2_0, x2_0]; rfl)
    rw [Array.length_toList] at z
    exact Nat.le_trans z (by decide)
  obtain ⟨y2_1, hy2_1⟩ : ∃ y, xs2[1]? = some y := ⟨_, List.getElem?_eq_getElem (by rw [hlen2]; decide)⟩
  have z2_1 := (hg2 1 _ rfl).trans hy2_1
  obtain ⟨a2_1, e2_1, _⟩ := DataW.trod_bool Tryd.underlying4 z2_1
  obtain ⟨y2_2, hy2_2⟩ : ∃ y, xs2[2]? = some y := ⟨_, List.getElem?_eq_getElem (by rw [hlen2]; decide)⟩
  have z2_2 := (hg2 2 _ rfl).trans hy2_2
  obtain ⟨a2_2, e2_2, _, w2_2⟩ := DataW.trod_int Tryd.underlying3 z2_2
  have hz2' : cs2.length = 3 := hz2.trans (by kernel_rfl)
  obtain ⟨b2_0, b2_1, b2_2, hcs2⟩ := list3 hz2'
  subst hcs2
  have fe2_0 : [b2_0] = _ := e2_0
  obtain rfl := (List.cons.inj fe2_0).1
  have fe2_1 : [b2_1] = _ := e2_1
  obtain rfl := (List.cons.inj fe2_1).1
  have fe2_2 : [b2_2] = _ := e2_2
  obtain rfl := (List.cons.inj fe2_2).1
  clear hA0 hval0 hsz0 hsz
  refine (back_law a0 a1_0 a1_1 a1_2 (wf_lo w1_0) (wf_hi w1_0) a2_0 a2_1 a2_2 w2_0 W htab).mono fun e W' ⟨he, bel0⟩ => ?_
  have bel : Below W.heap.size W W' := bel0
  subst he
  exact ⟨_, rfl, _, _, _, [], _, [], hW', trodAll_mk1 (shut_bool Tryd.underlying4 _), (trodAll_cons_mk (Below.trod laidOut (by kernel_rfl) (of_decide_eq_true (by kernel_rfl)) k0 bel lt0) (trodAll_cons_mk (Below.trod laidOut (by kernel_rfl) (of_decide_eq_true (by kernel_rfl)) k1 bel lt1) (trodAll_cons_mk (Below.trod laidOut (by kernel_rfl) (of_decide_eq_true (by kernel_rfl)) k2 bel lt2) trodAll_mk0))), rfl, bel.frame _, fun h => by cases h⟩
theorem over : Rows.boundBackRow.holds Tryd.pinned (OpenSpec.ofChange Rows.boundBackSpec) :=
  OpenClaim.holds_of_wide 4 Tryd.f4 rfl rfl rfl rfl rfl rfl rfl ⟨rfl, rfl, rfl, rfl, rfl⟩ rfl rfl rfl rfl rfl (by kernel_rfl) Tryd.func4 (by kernel_rfl)
    (of_decide_eq_true (by kernel_rfl)) (by unfold Func.isWrapper; first | (rw [if_pos (by decide +kernel)]; kernel_rfl) | (rw [if_neg (by decide +kernel)]; exact ⟨rfl, rfl⟩))
    (fun os started H enc _ => lifted os started H enc)
theorem proved : Rows.BoundBackSaid := over
#print axioms proved
theorem card : Rows.BoundBackCardSaid :=
  Claim7.holds_tied_plain_at .later [] [.data, .data, .data] true (true, "ac6d7e7f1432234d64d22bab679ed4257a2371f78083aa67fc4e5329c19dd310") true
    proved (fun _ h => by cases h) (by kernel_rfl) (fun _ h => by cases h) boundBack_row_tie rfl ⟨rfl, rfl⟩ (by kernel_rfl) rfl
    (fun f fn hf hfn => by
      obtain rfl : f = 4 := Option.some.inj ((show Tryd.prog.funcNamed "palio/paliolaw09.BoundBack" = some 4 by kernel_rfl).symm.trans hf) |>.symm
      obtain rfl : fn = Tryd.f4 := (Option.some.inj (Tryd.func4.symm.trans hfn)).symm
      exact ⟨by kernel_rfl, fun j t ht => by
        rw [Tryd.params4] at ht
        have hm : t ∈ [9,23,33] := by simpa using Array.mem_of_getElem? ht
        have hall : ([9,23,33].all fun u => !Tryd.prog.wantsStandIn u) = true := by kernel_rfl
        exact (show Tryd.prog.wantsStandIn t = false by simpa using List.all_eq_true.1 hall t hm)⟩)
    (by kernel_rfl)
end Go.Proofs.YtnglofnelmojnaaDoor.boundBack
namespace Go.Proofs.YtnglofnelmojnaaDoor
/-- The card, under a short name, for the claim. -/
theorem boundBackCard_holds : Rows.BoundBackCardSaid := boundBack.card
end Go.Proofs.YtnglofnelmojnaaDoor
