/- The statement AlgebraMakes: at every input the law answers true, and leaves its arguments as they read. -/
import Derived.Test.YtidhbpfkiapcjaaDoorRows
import Derived.Test.YtidhbpfkiapcjaaDoorCards
import Derived.Test.YtidhbpfkiapcjaaDoorTie
import Derived.Test.YtidhbpfkiapcjaaDoorRS
import Derived.Test.YtidhbpfkiapcjaaDoorMF
import Derived.SevenTiedAt
import Derived.WalkKit
import Derived.ProofKit
import Derived.OpenShut
import Derived.ShutString
import Derived.ChangeOld
import Derived.Below
import Derived.SizedLaws
import Derived.Deep.Slices
import Derived.ChangeSame
import Derived.Laws.Tables
namespace Go.Proofs.YtidhbpfkiapcjaaDoor.algebraMakes
open Go.ChangeShapes Go.WideShapes Go.ChangeAt Go.RowKit Go.Proofs.YtidhbpfkiapcjaaDoorW.PrintWords Go.Proofs.YtidhbpfkiapcjaaDoorW.PrintLast Go.Proofs.YtidhbpfkiapcjaaDoor.P
open Go.ChangeMaps (open_string shut_string)
theorem own : ownKnob Tryd.prog.godebug = none := by kernel_rfl
theorem laidOut : laidOutB Tryd.prog = true := by kernel_rfl

theorem row_of_trod {H : Type} {enc : TypeId × Value → H} {P : Program} {W : World} {spare : Nat → Bool} {held : Bool} {t e : TypeId} {fuel : Nat} {cs : List Value} {x : DataW H × List MemPlace} {α : Type} {d : Kd α} {Good : α → Prop}
    (ht : P.underlying t = some (.slice e)) (hsz : P.cellsOf e = d.sz) (hel : ∀ n cs' y, DataW.trod enc P W 0 spare held n e cs' = some y → ∃ v, d.K W v cs' ∧ Good v) (h : DataW.trod enc P W 0 spare held fuel t cs = some x) :
    ∃ (l : List α) (a : Option Addr) (c : Nat), cs = [.slice a l.length c] ∧ l.length ≤ c ∧ c ≤ maxLen ∧ Kd.C d W a l.length l ∧ ∀ v ∈ l, Good v := by
  rcases Go.Deep.open_slice ht h with ⟨rfl, _⟩ | ⟨a, len, cap, m, n, D, Pl, rfl, _, hl, hm, hmm, _, hx⟩
  · exact ⟨[], none, 0, rfl, Nat.le_refl _, Nat.zero_le _, ⟨rfl, Nat.zero_le _, fun h => absurd h (Nat.lt_irrefl _)⟩, fun v hv => by cases hv⟩
  · have hle : len ≤ m := by rw [hmm]; split <;> omega
    have pick : ∀ i : Fin len, ∃ v : α, ∃ cs', W.cells? 0 (a.add (i.val * P.cellsOf e)) (P.cellsOf e) = some cs' ∧ d.K W v cs' ∧ Good v := fun i => by
      obtain ⟨cs', h1, h2⟩ := hx i.val (by omega)
      obtain ⟨v, hv⟩ := hel _ _ _ h2
      exact ⟨v, cs', h1, hv⟩
    obtain ⟨f, hf⟩ := Classical.axiomOfChoice pick
    have hlen : (List.ofFn f).length = len := List.length_ofFn
    refine ⟨List.ofFn f, some a, cap, by rw [hlen], by omega, hm, ⟨rfl, by rw [hlen]; unfold maxLen at hm; omega, fun _ => ⟨a, rfl, fun j p hj => ?_⟩⟩, fun v hv => ?_⟩
    · have hjl : j < len := by
        rcases Nat.lt_or_ge j len with h' | h'
        · exact h'
        · rw [List.getElem?_eq_none (by omega)] at hj; cases hj
      obtain ⟨cs', h1, h2, _⟩ := hf ⟨j, hjl⟩
      have hp : p = f ⟨j, hjl⟩ := by simpa [List.getElem?_ofFn, hjl] using hj.symm
      subst hp
      refine ⟨cs', d.K_len h2, h2, fun i u hu => ?_⟩
      obtain ⟨_, hlen', hat⟩ := World.cells?_some h1
      have hi : i < cs'.length := (List.getElem?_eq_some_iff.1 hu).1
      have hc := hat i (by omega)
      rw [hu] at hc
      rw [← hsz, ← hc, Go.Deep.add_add]
    · obtain ⟨i, rfl⟩ := List.mem_ofFn.1 hv
      obtain ⟨_, _, _, h3⟩ := hf i
      exact h3

def GoodS (x : ByteArray) : Prop := x.size ≤ maxLen
set_option maxRecDepth 100000 in
theorem el9 {H : Type} {enc : TypeId × Value → H} {W : World} {spare : Nat → Bool} {held : Bool} {fuel : Nat} {cs : List Value} {x : DataW H × List MemPlace} (h : DataW.trod enc Tryd.prog W 0 spare held fuel 9 cs = some x) : ∃ v : ByteArray, (Kd.string).K W v cs ∧ GoodS v := by
  obtain ⟨s, rfl, _, hs⟩ := DataW.trod_string Tryd.underlying9 h
  exact ⟨s, rfl, hs⟩
def Goodi64 (x : Int) : Prop := (Lit.int .i64 x).wf = true
set_option maxRecDepth 100000 in
theorem el2 {H : Type} {enc : TypeId × Value → H} {W : World} {spare : Nat → Bool} {held : Bool} {fuel : Nat} {cs : List Value} {x : DataW H × List MemPlace} (h : DataW.trod enc Tryd.prog W 0 spare held fuel 2 cs = some x) : ∃ v : Int, ((Kd.int .i64)).K W v cs ∧ Goodi64 v := by
  obtain ⟨n, rfl, _, hw⟩ := DataW.trod_int Tryd.underlying2 h
  exact ⟨n, rfl, hw⟩
def GoodT36 (x : S36) : Prop := GoodS x.f0 ∧ Goodi64 x.f1
set_option maxRecDepth 100000 in
theorem struct_K_36 {W : World} {cs : List Value} {v0 : ByteArray} {v1 : Int} (hl : cs.length = Tryd.prog.cellsOf 36) (K0 : (Kd.string).K W v0 ((cs.drop 0).take 1)) (K1 : ((Kd.int .i64)).K W v1 ((cs.drop 1).take 1)) : k36.K W (⟨v0, v1⟩ : S36) cs := by
  have hl' : cs.length = 2 := hl.trans (by kernel_rfl)
  match cs, hl' with
  | [c0, c1], _ => exact ⟨[c0], [c1], rfl, K0, K1⟩
set_option maxRecDepth 100000 in
theorem el36 {H : Type} {enc : TypeId × Value → H} {W : World} {spare : Nat → Bool} {held : Bool} {fuel : Nat} {cs : List Value} {x : DataW H × List MemPlace} (h : DataW.trod enc Tryd.prog W 0 spare held fuel 36 cs = some x) : ∃ v : S36, k36.K W v cs ∧ GoodT36 v := by
  obtain ⟨xs, n, _, _, hl, hlen, hg⟩ := DataW.trod_struct Tryd.underlying36 h
  obtain ⟨y0, hy0⟩ : ∃ y, xs[0]? = some y := ⟨_, List.getElem?_eq_getElem (by rw [hlen]; decide)⟩
  obtain ⟨v0, K0, G0⟩ := el9 ((hg 0 _ rfl).trans hy0)
  obtain ⟨y1, hy1⟩ : ∃ y, xs[1]? = some y := ⟨_, List.getElem?_eq_getElem (by rw [hlen]; decide)⟩
  obtain ⟨v1, K1, G1⟩ := el2 ((hg 1 _ rfl).trans hy1)
  refine ⟨⟨v0, v1⟩, ?_, ⟨G0, G1⟩⟩
  exact struct_K_36 hl K0 K1
def GoodL26 (x : List S36) : Prop := (x.length ≤ maxLen ∧ ∀ y ∈ x, GoodT36 y)
set_option maxRecDepth 100000 in
theorem el26 {H : Type} {enc : TypeId × Value → H} {W : World} {spare : Nat → Bool} {held : Bool} {fuel : Nat} {cs : List Value} {x : DataW H × List MemPlace} (h : DataW.trod enc Tryd.prog W 0 spare held fuel 26 cs = some x) : ∃ v : List S36, ((Kd.slice 36 k36)).K W v cs ∧ GoodL26 v := by
  obtain ⟨l, a, c, rfl, hl, hm, hc, hg⟩ := row_of_trod (d := k36) (Good := GoodT36) Tryd.underlying26 rfl (fun _ _ _ h' => el36 h') h
  exact ⟨l, ⟨a, c, rfl, hl, hc⟩, ⟨Nat.le_trans hl hm, hg⟩⟩
set_option maxRecDepth 100000 in
theorem lifted (os : Os) (started : os.Started) (H : Type) (enc : TypeId × Value → H) :
    ReturnsInHanded {} Tryd.checked os 3 .any (fun w args => (Rows.algebraMakesSpec.pre enc Tryd.prog Tryd.f3 [] false w args ∧ laidMetH Tryd.prog laidS w) ∧ sizedMet enc Tryd.prog Tryd.f3 (OpenSpec.ofChange Rows.algebraMakesSpec) false w args)
      (Rows.algebraMakesSpec.post enc Tryd.prog Tryd.f3 false true false false) := by
  refine rih_and_shaped (C := Tryd.checked) (X := fun w => laidMetH Tryd.prog laidS w) (fun _ _ hh h => h.of_heap hh) own started (by kernel_rfl) Tryd.func3
    (ChangeSpec.witness_shaped (enc := enc) (C := Tryd.checked) (os := os) (X := fun w _ => laidMetH Tryd.prog laidS w) false (World.doorLaid Tryd.prog 4000 os) #[.slice none 0 0, .bool false, .slice none 0 0, .int .i64 0] 8 rfl (World.shaped_of_RefB (by kernel_rfl) (by kernel_rfl)) (by kernel_rfl) (by kernel_rfl) (by kernel_rfl) (metS os _)) ?_
  intro W base args ds gs before hval0 hW hsz0 hL _
  have hsz : (DataW.weightsEach Tryd.prog (Tryd.f3.params.toList ++ Rows.algebraMakesSpec.plain.varTypes Tryd.prog) (ds ++ gs)).all (· ≤ reachBytes) = true := hsz0
  obtain ⟨p', q', hg⟩ := g2_of hL
  have hval : ∀ (j : Nat) t v, Tryd.f3.params[j]? = some t → args[j]? = some v → Value.okWide Tryd.prog W .any base t v := hval0
  have hW' := hW
  obtain ⟨p, q, hA0, hV, rfl, hfz, hnd⟩ := hW
  have hA : DataW.TrodAll enc Tryd.prog W 0 (fun _ => true) true Tryd.f3.params.toList args.toList ds p := hA0
  rw [Tryd.params3] at hA hval hsz
  obtain ⟨v0, vs0, d0, ds0, p0, q0, hargs, rfl, rfl, h0, r0⟩ := trodAll_cons hA
  obtain ⟨v1, vs1, d1, ds1, p1, q1, rfl, rfl, rfl, h1, r1⟩ := trodAll_cons r0
  obtain ⟨v2, vs2, d2, ds2, p2, q2, rfl, rfl, rfl, h2, r2⟩ := trodAll_cons r1
  obtain ⟨v3, vs3, d3, ds3, p3, q3, rfl, rfl, rfl, h3, r3⟩ := trodAll_cons r2
  obtain ⟨rfl, rfl, rfl⟩ := trodAll_nil r3
  obtain rfl : args = #[v0, v1, v2, v3] := by cases args; simp_all
  obtain ⟨rfl, rfl⟩ := trodVars_none hV
  have k0 := h0
  have lt0 : ∀ x ∈ p0, x.block < W.heap.size := by obtain ⟨m, hm⟩ := k0; exact DataW.trod_lt m _ _ _ hm
  obtain ⟨A0, len0, c0, rfl⟩ := okWide_slice Tryd.underlying22 (hval 0 22 v0 rfl rfl)
  obtain ⟨fu0, hf0⟩ := h0
  obtain ⟨l0, A0', c0', e0, hc0, hm0, hr0, hg0⟩ := row_of_trod (d := (Kd.slice 36 k36)) (Good := GoodL26) Tryd.underlying22 rfl (fun _ _ _ h' => el26 h') hf0
  simp only [Value.cells, List.cons.injEq, Value.slice.injEq, and_true] at e0
  obtain ⟨rfl, rfl, rfl⟩ := e0
  have k1 := h1
  have lt1 : ∀ x ∈ p1, x.block < W.heap.size := by obtain ⟨m, hm⟩ := k1; exact DataW.trod_lt m _ _ _ hm
  obtain ⟨a1, rfl, rfl, rfl⟩ := open_bool Tryd.underlying4 (hval 1 4 v1 rfl rfl) h1
  have k2 := h2
  have lt2 : ∀ x ∈ p2, x.block < W.heap.size := by obtain ⟨m, hm⟩ := k2; exact DataW.trod_lt m _ _ _ hm
  obtain ⟨A2, len2, c2, rfl⟩ := okWide_slice Tryd.underlying23 (hval 2 23 v2 rfl rfl)
  obtain ⟨fu2, hf2⟩ := h2
  obtain ⟨l2, A2', c2', e2, hc2, hm2, hr2, hg2⟩ := row_of_trod (d := (Kd.int .i64)) (Good := Goodi64) Tryd.underlying23 rfl (fun _ _ _ h' => el2 h') hf2
  simp only [Value.cells, List.cons.injEq, Value.slice.injEq, and_true] at e2
  obtain ⟨rfl, rfl, rfl⟩ := e2
  have k3 := h3
  have lt3 : ∀ x ∈ p3, x.block < W.heap.size := by obtain ⟨m, hm⟩ := k3; exact DataW.trod_lt m _ _ _ hm
  obtain ⟨a3, rfl, rfl, rfl, w3⟩ := open_int Tryd.underlying3 (hval 3 3 v3 rfl rfl) h3
  clear hA0 hval0
  refine (makes_calls l0 (fun x hx e he => ((hg0 x hx).2 e he).2) a1 l2 a3 (by unfold okW; rw [decide_eq_true (Nat.le_trans hc2 hm2), Bool.true_and]; exact w3) _ _ hc0 _ _ hc2 p' q' W hg hr0 hr2).mono fun e W' ⟨he, bel0⟩ => ?_
  have bel : Below W.heap.size W W' := bel0
  subst he
  exact ⟨_, rfl, _, _, _, [], _, [], hW', trodAll_mk1 (shut_bool Tryd.underlying4 _), (trodAll_cons_mk (Below.trod laidOut (by kernel_rfl) (of_decide_eq_true (by kernel_rfl)) k0 bel lt0) (trodAll_cons_mk (Below.trod laidOut (by kernel_rfl) (of_decide_eq_true (by kernel_rfl)) k1 bel lt1) (trodAll_cons_mk (Below.trod laidOut (by kernel_rfl) (of_decide_eq_true (by kernel_rfl)) k2 bel lt2) (trodAll_cons_mk (Below.trod laidOut (by kernel_rfl) (of_decide_eq_true (by kernel_rfl)) k3 bel lt3) trodAll_mk0)))), rfl, bel.frame _, fun h => by cases h⟩
theorem over : Rows.algebraMakesRow.holds Tryd.pinned (OpenSpec.ofChange Rows.algebraMakesSpec) :=
  OpenClaim.holds_of_wide 3 Tryd.f3 rfl rfl rfl rfl rfl rfl rfl ⟨rfl, rfl, rfl, rfl, rfl⟩ rfl rfl rfl rfl rfl (by kernel_rfl) Tryd.func3 (by kernel_rfl)
    (of_decide_eq_true (by kernel_rfl)) (by unfold Func.isWrapper; first | (rw [if_pos (by decide +kernel)]; kernel_rfl) | (rw [if_neg (by decide +kernel)]; exact ⟨rfl, rfl⟩))
    (fun os started H enc _ => lifted os started H enc)
theorem proved : Rows.AlgebraMakesSaid := over
#print axioms proved
theorem card : Rows.AlgebraMakesCardSaid :=
  Claim7.holds_tied_plain_at .later [] [.sentinel, .sentinel] true (true, "975cc324cdaa7e9ad31acf7b43377bfea797e4225bb1f43d189e104ed98142e4") true
    proved (fun _ h => by cases h) (by kernel_rfl) (fun _ h => by cases h) algebraMakes_row_tie rfl ⟨rfl, rfl⟩ (by kernel_rfl) rfl
    (fun f fn hf hfn => by
      obtain rfl : f = 3 := Option.some.inj ((show Tryd.prog.funcNamed "palio/paliolaw13.AlgebraMakes" = some 3 by kernel_rfl).symm.trans hf) |>.symm
      obtain rfl : fn = Tryd.f3 := (Option.some.inj (Tryd.func3.symm.trans hfn)).symm
      exact ⟨by kernel_rfl, fun j t ht => by
        rw [Tryd.params3] at ht
        have hm : t ∈ [22, 4, 23, 3] := by simpa using Array.mem_of_getElem? ht
        have hall : ([22, 4, 23, 3].all fun u => !Tryd.prog.wantsStandIn u) = true := by kernel_rfl
        exact (show Tryd.prog.wantsStandIn t = false by simpa using List.all_eq_true.1 hall t hm)⟩)
    (by kernel_rfl)
end Go.Proofs.YtidhbpfkiapcjaaDoor.algebraMakes
namespace Go.Proofs.YtidhbpfkiapcjaaDoor
/-- The card, under a short name, for the claim. -/
theorem algebraMakesCard_holds : Rows.AlgebraMakesCardSaid := algebraMakes.card
end Go.Proofs.YtidhbpfkiapcjaaDoor
