/- The statement SkipDoes: at every input the law answers true, and leaves its arguments as they read. -/
import Derived.Test.YtnlbdmiflihghaaRows
import Derived.Test.YtnlbdmiflihghaaPL4
import Derived.Test.YtnlbdmiflihghaaPureSkipDoes
import Derived.WalkKit
import Derived.ProofKit
import Derived.OpenShut
import Derived.ShutString
import Derived.ChangeOld
import Derived.Below
import Derived.SizedLaws
import Derived.Deep.Slices
import Derived.ChangeSame
import Derived.Laws.Tables
namespace Go.Proofs.Ytnlbdmiflihghaa.skipDoes
open Go.ChangeShapes Go.WideShapes Go.ChangeAt Go.RowKit Go.Proofs.YtnlbdmiflihghaaW.PrintWords Go.Proofs.YtnlbdmiflihghaaW.PrintLast Go.Proofs.Ytnlbdmiflihghaa.P
open Go.ChangeMaps (open_string shut_string)
theorem own : ownKnob Try.prog.godebug = none := by kernel_rfl
theorem laidOut : laidOutB Try.prog = true := by kernel_rfl

theorem row_of_trod {H : Type} {enc : TypeId × Value → H} {P : Program} {W : World} {spare : Nat → Bool} {held : Bool} {t e : TypeId} {fuel : Nat} {cs : List Value} {x : DataW H × List MemPlace} {α : Type} {d : Kd α} {Good : α → Prop}
    (ht : P.underlying t = some (.slice e)) (hsz : P.cellsOf e = d.sz) (hel : ∀ n cs' y, DataW.trod enc P W 0 spare held n e cs' = some y → ∃ v, d.K W v cs' ∧ Good v) (h : DataW.trod enc P W 0 spare held fuel t cs = some x) :
    ∃ (l : List α) (a : Option Addr) (c : Nat), cs = [.slice a l.length c] ∧ l.length ≤ c ∧ c ≤ maxLen ∧ Kd.C d W a l.length l ∧ ∀ v ∈ l, Good v := by
  rcases Go.Deep.open_slice ht h with ⟨rfl, _⟩ | ⟨a, len, cap, m, n, D, Pl, rfl, _, hl, hm, hmm, _, hx⟩
  · exact ⟨[], none, 0, rfl, Nat.le_refl _, Nat.zero_le _, ⟨rfl, Nat.zero_le _, fun h => absurd h (Nat.lt_irrefl _)⟩, fun v hv => by cases hv⟩
  · have hle : len ≤ m := by rw [hmm]; split <;> omega
    have pick : ∀ i : Fin len, ∃ v : α, ∃ cs', W.cells? 0 (a.add (i.val * P.cellsOf e)) (P.cellsOf e) = some cs' ∧ d.K W v cs' ∧ Good v := fun i => by
      obtain ⟨cs', h1, h2⟩ := hx i.val (by omega)
      obtain ⟨v, hv⟩ := hel _ _ _ h2
      exact ⟨v, cs', h1, hv⟩
    obtain ⟨f, hf⟩ := Classical.axiomOfChoice pick
    have hlen : (List.ofFn f).length = len := List.length_ofFn
    refine ⟨List.ofFn f, some a, cap, by rw [hlen], by omega, hm, ⟨rfl, by rw [hlen]; unfold maxLen at hm; omega, fun _ => ⟨a, rfl, fun j p hj => ?_⟩⟩, fun v hv => ?_⟩
    · have hjl : j < len := by
        rcases Nat.lt_or_ge j len with h' | h'
        · exact h'
        · rw [List.getElem?_eq_none (by omega)] at hj; cases hj
      obtain ⟨cs', h1, h2, _⟩ := hf ⟨j, hjl⟩
      have hp : p = f ⟨j, hjl⟩ := by simpa [List.getElem?_ofFn, hjl] using hj.symm
      subst hp
      refine ⟨cs', d.K_len h2, h2, fun i u hu => ?_⟩
      obtain ⟨_, hlen', hat⟩ := World.cells?_some h1
      have hi : i < cs'.length := (List.getElem?_eq_some_iff.1 hu).1
      have hc := hat i (by omega)
      rw [hu] at hc
      rw [← hsz, ← hc, Go.Deep.add_add]
    · obtain ⟨i, rfl⟩ := List.mem_ofFn.1 hv
      obtain ⟨_, _, _, h3⟩ := hf i
      exact h3

def Goodi64 (x : Int) : Prop := (Lit.int .i64 x).wf = true
theorem el3 {H : Type} {enc : TypeId × Value → H} {W : World} {spare : Nat → Bool} {held : Bool} {fuel : Nat} {cs : List Value} {x : DataW H × List MemPlace} (h : DataW.trod enc Try.prog W 0 spare held fuel 3 cs = some x) : ∃ v : Int, ((Kd.int .i64)).K W v cs ∧ Goodi64 v := by
  obtain ⟨n, rfl, _, hw⟩ := DataW.trod_int Try.underlying3 h
  exact ⟨n, rfl, hw⟩
def GoodS (x : ByteArray) : Prop := x.size ≤ maxLen
theorem el9 {H : Type} {enc : TypeId × Value → H} {W : World} {spare : Nat → Bool} {held : Bool} {fuel : Nat} {cs : List Value} {x : DataW H × List MemPlace} (h : DataW.trod enc Try.prog W 0 spare held fuel 9 cs = some x) : ∃ v : ByteArray, (Kd.string).K W v cs ∧ GoodS v := by
  obtain ⟨s, rfl, _, hs⟩ := DataW.trod_string Try.underlying9 h
  exact ⟨s, rfl, hs⟩
theorem el2 {H : Type} {enc : TypeId × Value → H} {W : World} {spare : Nat → Bool} {held : Bool} {fuel : Nat} {cs : List Value} {x : DataW H × List MemPlace} (h : DataW.trod enc Try.prog W 0 spare held fuel 2 cs = some x) : ∃ v : Int, ((Kd.int .i64)).K W v cs ∧ Goodi64 v := by
  obtain ⟨n, rfl, _, hw⟩ := DataW.trod_int Try.underlying2 h
  exact ⟨n, rfl, hw⟩
def GoodT27 (x : S27) : Prop := GoodS x.f0 ∧ Goodi64 x.f1
theorem struct_K_28 {W : World} {cs : List Value} {v0 : ByteArray} {v1 : Int} (hl : cs.length = Try.prog.cellsOf 28) (K0 : (Kd.string).K W v0 ((cs.drop 0).take 1)) (K1 : ((Kd.int .i64)).K W v1 ((cs.drop 1).take 1)) : k27.K W (⟨v0, v1⟩ : S27) cs := by
  have hl' : cs.length = 2 := hl.trans (by kernel_rfl)
  match cs, hl' with
  | [c0, c1], _ => exact ⟨[c0], [c1], rfl, K0, K1⟩
theorem el28 {H : Type} {enc : TypeId × Value → H} {W : World} {spare : Nat → Bool} {held : Bool} {fuel : Nat} {cs : List Value} {x : DataW H × List MemPlace} (h : DataW.trod enc Try.prog W 0 spare held fuel 28 cs = some x) : ∃ v : S27, k27.K W v cs ∧ GoodT27 v := by
  obtain ⟨xs, n, _, _, hl, hlen, hg⟩ := DataW.trod_struct Try.underlying28 h
  obtain ⟨y0, hy0⟩ : ∃ y, xs[0]? = some y := ⟨_, List.getElem?_eq_getElem (by rw [hlen]; decide)⟩
  obtain ⟨v0, K0, G0⟩ := el9 ((hg 0 _ rfl).trans hy0)
  obtain ⟨y1, hy1⟩ : ∃ y, xs[1]? = some y := ⟨_, List.getElem?_eq_getElem (by rw [hlen]; decide)⟩
  obtain ⟨v1, K1, G1⟩ := el2 ((hg 1 _ rfl).trans hy1)
  refine ⟨⟨v0, v1⟩, ?_, ⟨G0, G1⟩⟩
  exact struct_K_28 hl K0 K1
def GoodT39 (x : S39) : Prop := Goodi64 x.f0 ∧ GoodT27 x.f1 ∧ Goodi64 x.f2 ∧ Goodi64 x.f3 ∧ Goodi64 x.f4
theorem struct_K_40 {W : World} {cs : List Value} {v0 : Int} {v1 : S27} {v2 : Int} {v3 : Int} {v4 : Int} (hl : cs.length = Try.prog.cellsOf 40) (K0 : ((Kd.int .i64)).K W v0 ((cs.drop 0).take 1)) (K1 : (k27).K W v1 ((cs.drop 1).take 2)) (K2 : ((Kd.int .i64)).K W v2 ((cs.drop 3).take 1)) (K3 : ((Kd.int .i64)).K W v3 ((cs.drop 4).take 1)) (K4 : ((Kd.int .i64)).K W v4 ((cs.drop 5).take 1)) : k39.K W (⟨v0, v1, v2, v3, v4⟩ : S39) cs := by
  have hl' : cs.length = 6 := hl.trans (by kernel_rfl)
  match cs, hl' with
  | [c0, c1, c2, c3, c4, c5], _ => exact ⟨[c0], [c1, c2, c3, c4, c5], rfl, K0, [c1, c2], [c3, c4, c5], rfl, K1, [c3], [c4, c5], rfl, K2, [c4], [c5], rfl, K3, K4⟩
theorem el40 {H : Type} {enc : TypeId × Value → H} {W : World} {spare : Nat → Bool} {held : Bool} {fuel : Nat} {cs : List Value} {x : DataW H × List MemPlace} (h : DataW.trod enc Try.prog W 0 spare held fuel 40 cs = some x) : ∃ v : S39, k39.K W v cs ∧ GoodT39 v := by
  obtain ⟨xs, n, _, _, hl, hlen, hg⟩ := DataW.trod_struct Try.underlying40 h
  obtain ⟨y0, hy0⟩ : ∃ y, xs[0]? = some y := ⟨_, List.getElem?_eq_getElem (by rw [hlen]; decide)⟩
  obtain ⟨v0, K0, G0⟩ := el3 ((hg 0 _ rfl).trans hy0)
  obtain ⟨y1, hy1⟩ : ∃ y, xs[1]? = some y := ⟨_, List.getElem?_eq_getElem (by rw [hlen]; decide)⟩
  obtain ⟨v1, K1, G1⟩ := el28 ((hg 1 _ rfl).trans hy1)
  obtain ⟨y2, hy2⟩ : ∃ y, xs[2]? = some y := ⟨_, List.getElem?_eq_getElem (by rw [hlen]; decide)⟩
  obtain ⟨v2, K2, G2⟩ := el3 ((hg 2 _ rfl).trans hy2)
  obtain ⟨y3, hy3⟩ : ∃ y, xs[3]? = some y := ⟨_, List.getElem?_eq_getElem (by rw [hlen]; decide)⟩
  obtain ⟨v3, K3, G3⟩ := el3 ((hg 3 _ rfl).trans hy3)
  obtain ⟨y4, hy4⟩ : ∃ y, xs[4]? = some y := ⟨_, List.getElem?_eq_getElem (by rw [hlen]; decide)⟩
  obtain ⟨v4, K4, G4⟩ := el3 ((hg 4 _ rfl).trans hy4)
  refine ⟨⟨v0, v1, v2, v3, v4⟩, ?_, ⟨G0, G1, G2, G3, G4⟩⟩
  exact struct_K_40 hl K0 K1 K2 K3 K4
set_option maxRecDepth 100000 in
theorem lifted (os : Os) (started : os.Started) (H : Type) (enc : TypeId × Value → H) :
    ReturnsInHanded {} Try.checked os 6 .any (Rows.skipDoesSpec.pre6 enc Try.prog Try.f6 Rows.skipDoesRow.domain false) (Rows.skipDoesSpec.post enc Try.prog Try.f6 false true false false) := by
  refine returnsInHanded_of_change_sized (C := Try.checked) own started (by kernel_rfl) Try.func6
    (ChangeSpec.witness6 (enc := enc) (C := Try.checked) false ⟨#[], #[.slice none 0 0], []⟩ 8 (by kernel_rfl) (by kernel_rfl) (by kernel_rfl) (by kernel_rfl)) ?_
  intro W base args ds gs before hval0 hW hcnd hsz0 _
  have hsz : (DataW.weightsEach Try.prog (Try.f6.params.toList ++ Rows.skipDoesSpec.plain.varTypes Try.prog) (ds ++ gs)).all (· ≤ reachBytes) = true := hsz0
  have hval : ∀ (j : Nat) t v, Try.f6.params[j]? = some t → args[j]? = some v → Value.okWide Try.prog W .any base t v := hval0
  have hW' := hW
  obtain ⟨p, q, hA0, hV, rfl, hfz, hnd⟩ := hW
  have hA : DataW.TrodAll enc Try.prog W 0 (fun _ => true) true Try.f6.params.toList args.toList ds p := hA0
  rw [Try.params6] at hA hval hsz
  obtain ⟨v0, vs0, d0, ds0, p0, q0, hargs, rfl, rfl, h0, r0⟩ := trodAll_cons hA
  obtain ⟨rfl, rfl, rfl⟩ := trodAll_nil r0
  obtain rfl : args = #[v0] := by cases args; simp_all
  obtain ⟨rfl, rfl⟩ := trodVars_none hV
  have k0 := h0
  have lt0 : ∀ x ∈ p0, x.block < W.heap.size := by obtain ⟨m, hm⟩ := k0; exact DataW.trod_lt m _ _ _ hm
  obtain ⟨A0, len0, c0, rfl⟩ := okWide_slice Try.underlying22 (hval 0 22 v0 rfl rfl)
  obtain ⟨fu0, hf0⟩ := h0
  obtain ⟨l0, A0', c0', e0, hc0, hm0, hr0, hg0⟩ := row_of_trod (d := k39) (Good := GoodT39) Try.underlying22 rfl (fun _ _ _ h' => el40 h') hf0
  simp only [Value.cells, List.cons.injEq, Value.slice.injEq, and_true] at e0
  obtain ⟨rfl, rfl, rfl⟩ := e0
  have hp := Pure.SkipDoes l0 (Nat.le_trans hc0 hm0)
  clear hA0 hval0 hsz0 hsz
  refine (paliolaw10_SkipDoes.calls _ _ l0 true W hr0 hc0 hp).mono fun e W' ⟨he, bel0⟩ => ?_
  have bel : Below W.heap.size W W' := bel0
  subst he
  exact ⟨_, rfl, _, _, _, [], _, [], hW', trodAll_mk1 (shut_bool Try.underlying4 _), (trodAll_cons_mk (Below.trod laidOut (by kernel_rfl) (of_decide_eq_true (by kernel_rfl)) k0 bel lt0) trodAll_mk0), rfl, bel.frame _, fun h => by cases h⟩
theorem over : Rows.skipDoesRow.holds Try.pinned (OpenSpec.ofChange Rows.skipDoesSpec) :=
  OpenClaim.holds_of_wide 6 Try.f6 rfl rfl rfl rfl rfl rfl rfl ⟨rfl, rfl, rfl, rfl, rfl⟩ rfl rfl rfl rfl rfl (by kernel_rfl) Try.func6 (by kernel_rfl)
    (of_decide_eq_true (by kernel_rfl)) (by unfold Func.isWrapper; first | (rw [if_pos (by decide +kernel)]; kernel_rfl) | (rw [if_neg (by decide +kernel)]; exact ⟨rfl, rfl⟩))
    (fun os started H enc _ => lifted os started H enc)
theorem proved : Rows.SkipDoesSaid := over
#print axioms proved
end Go.Proofs.Ytnlbdmiflihghaa.skipDoes
namespace Go.Proofs.Ytnlbdmiflihghaa
/-- The row, under a short name, for the claim. -/
theorem skipDoes_holds : Rows.SkipDoesSaid := skipDoes.proved
end Go.Proofs.Ytnlbdmiflihghaa
