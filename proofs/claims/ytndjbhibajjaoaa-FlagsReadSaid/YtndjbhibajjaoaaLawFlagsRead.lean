/- The statement FlagsRead: at every input the law answers true, and leaves its arguments as they read. -/
import Derived.Test.YtndjbhibajjaoaaRows
import Derived.Test.YtndjbhibajjaoaaPx9
import Derived.Test.YtndjbhibajjaoaaPureFlagsRead
import Derived.WalkKit
import Derived.ProofKit
import Derived.OpenShut
import Derived.ShutString
import Derived.ChangeOld
import Derived.Below
import Derived.SizedLaws
import Derived.Deep.Slices
import Derived.ChangeSame
import Derived.Laws.Tables
namespace Go.Proofs.Ytndjbhibajjaoaa.flagsRead
open Go.ChangeShapes Go.WideShapes Go.ChangeAt Go.RowKit Go.Proofs.YtndjbhibajjaoaaW.PrintWords Go.Proofs.YtndjbhibajjaoaaW.PrintLast Go.Proofs.Ytndjbhibajjaoaa.P
open Go.ChangeMaps (open_string shut_string)
theorem own : ownKnob Try.prog.godebug = none := by kernel_rfl
theorem laidOut : laidOutB Try.prog = true := by kernel_rfl

theorem row_of_trod {H : Type} {enc : TypeId × Value → H} {P : Program} {W : World} {spare : Nat → Bool} {held : Bool} {t e : TypeId} {fuel : Nat} {cs : List Value} {x : DataW H × List MemPlace} {α : Type} {d : Kd α} {Good : α → Prop}
    (ht : P.underlying t = some (.slice e)) (hsz : P.cellsOf e = d.sz) (hel : ∀ n cs' y, DataW.trod enc P W 0 spare held n e cs' = some y → ∃ v, d.K W v cs' ∧ Good v) (h : DataW.trod enc P W 0 spare held fuel t cs = some x) :
    ∃ (l : List α) (a : Option Addr) (c : Nat), cs = [.slice a l.length c] ∧ l.length ≤ c ∧ c ≤ maxLen ∧ Kd.C d W a l.length l ∧ ∀ v ∈ l, Good v := by
  rcases Go.Deep.open_slice ht h with ⟨rfl, _⟩ | ⟨a, len, cap, m, n, D, Pl, rfl, _, hl, hm, hmm, _, hx⟩
  · exact ⟨[], none, 0, rfl, Nat.le_refl _, Nat.zero_le _, ⟨rfl, Nat.zero_le _, fun h => absurd h (Nat.lt_irrefl _)⟩, fun v hv => by cases hv⟩
  · have hle : len ≤ m := by rw [hmm]; split <;> omega
    have pick : ∀ i : Fin len, ∃ v : α, ∃ cs', W.cells? 0 (a.add (i.val * P.cellsOf e)) (P.cellsOf e) = some cs' ∧ d.K W v cs' ∧ Good v := fun i => by
      obtain ⟨cs', h1, h2⟩ := hx i.val (by omega)
      obtain ⟨v, hv⟩ := hel _ _ _ h2
      exact ⟨v, cs', h1, hv⟩
    obtain ⟨f, hf⟩ := Classical.axiomOfChoice pick
    have hlen : (List.ofFn f).length = len := List.length_ofFn
    refine ⟨List.ofFn f, some a, cap, by rw [hlen], by omega, hm, ⟨rfl, by rw [hlen]; unfold maxLen at hm; omega, fun _ => ⟨a, rfl, fun j p hj => ?_⟩⟩, fun v hv => ?_⟩
    · have hjl : j < len := by
        rcases Nat.lt_or_ge j len with h' | h'
        · exact h'
        · rw [List.getElem?_eq_none (by omega)] at hj; cases hj
      obtain ⟨cs', h1, h2, _⟩ := hf ⟨j, hjl⟩
      have hp : p = f ⟨j, hjl⟩ := by simpa [List.getElem?_ofFn, hjl] using hj.symm
      subst hp
      refine ⟨cs', d.K_len h2, h2, fun i u hu => ?_⟩
      obtain ⟨_, hlen', hat⟩ := World.cells?_some h1
      have hi : i < cs'.length := (List.getElem?_eq_some_iff.1 hu).1
      have hc := hat i (by omega)
      rw [hu] at hc
      rw [← hsz, ← hc, Go.Deep.add_add]
    · obtain ⟨i, rfl⟩ := List.mem_ofFn.1 hv
      obtain ⟨_, _, _, h3⟩ := hf i
      exact h3

def GoodS (x : ByteArray) : Prop := x.size ≤ maxLen
theorem el9 {H : Type} {enc : TypeId × Value → H} {W : World} {spare : Nat → Bool} {held : Bool} {fuel : Nat} {cs : List Value} {x : DataW H × List MemPlace} (h : DataW.trod enc Try.prog W 0 spare held fuel 9 cs = some x) : ∃ v : ByteArray, (Kd.string).K W v cs ∧ GoodS v := by
  obtain ⟨s, rfl, _, hs⟩ := DataW.trod_string Try.underlying9 h
  exact ⟨s, rfl, hs⟩
theorem list6 {α : Type} {l : List α} (h : l.length = 6) : ∃ x0 x1 x2 x3 x4 x5, l = [x0, x1, x2, x3, x4, x5] := by
  match l, h with
  | [x0, x1, x2, x3, x4, x5], _ => exact ⟨x0, x1, x2, x3, x4, x5, rfl⟩
set_option maxRecDepth 100000 in
theorem lifted (os : Os) (started : os.Started) (H : Type) (enc : TypeId × Value → H) :
    ReturnsInHanded {} Try.checked os 7 .any (Rows.flagsReadSpec.pre6 enc Try.prog Try.f7 Rows.flagsReadRow.domain false) (Rows.flagsReadSpec.post enc Try.prog Try.f7 false true false false) := by
  refine returnsInHanded_of_change_sized (C := Try.checked) own started (by kernel_rfl) Try.func7
    (ChangeSpec.witness6 (enc := enc) (C := Try.checked) false ⟨#[], #[.slice none 0 0, .agg #[.bool false, .bool false, .bool false, .bool false, .bool false, .bool false]], []⟩ 8 (by kernel_rfl) (by kernel_rfl) (by kernel_rfl) (by kernel_rfl)) ?_
  intro W base args ds gs before hval0 hW hcnd hsz0 _
  have hsz : (DataW.weightsEach Try.prog (Try.f7.params.toList ++ Rows.flagsReadSpec.plain.varTypes Try.prog) (ds ++ gs)).all (· ≤ reachBytes) = true := hsz0
  have hval : ∀ (j : Nat) t v, Try.f7.params[j]? = some t → args[j]? = some v → Value.okWide Try.prog W .any base t v := hval0
  have hW' := hW
  obtain ⟨p, q, hA0, hV, rfl, hfz, hnd⟩ := hW
  have hA : DataW.TrodAll enc Try.prog W 0 (fun _ => true) true Try.f7.params.toList args.toList ds p := hA0
  rw [Try.params7] at hA hval hsz
  obtain ⟨v0, vs0, d0, ds0, p0, q0, hargs, rfl, rfl, h0, r0⟩ := trodAll_cons hA
  obtain ⟨v1, vs1, d1, ds1, p1, q1, rfl, rfl, rfl, h1, r1⟩ := trodAll_cons r0
  obtain ⟨rfl, rfl, rfl⟩ := trodAll_nil r1
  obtain rfl : args = #[v0, v1] := by cases args; simp_all
  obtain ⟨rfl, rfl⟩ := trodVars_none hV
  have k0 := h0
  have lt0 : ∀ x ∈ p0, x.block < W.heap.size := by obtain ⟨m, hm⟩ := k0; exact DataW.trod_lt m _ _ _ hm
  obtain ⟨A0, len0, c0, rfl⟩ := okWide_slice Try.underlying31 (hval 0 31 v0 rfl rfl)
  obtain ⟨fu0, hf0⟩ := h0
  obtain ⟨l0, A0', c0', e0, hc0, hm0, hr0, hg0⟩ := row_of_trod (d := Kd.string) (Good := GoodS) Try.underlying31 rfl (fun _ _ _ h' => el9 h') hf0
  simp only [Value.cells, List.cons.injEq, Value.slice.injEq, and_true] at e0
  obtain ⟨rfl, rfl, rfl⟩ := e0
  have k1 := h1
  have lt1 : ∀ x ∈ p1, x.block < W.heap.size := by obtain ⟨m, hm⟩ := k1; exact DataW.trod_lt m _ _ _ hm
  obtain ⟨cs1, rfl, hz1⟩ := okWide_struct Try.underlying23 (hval 1 23 v1 rfl rfl)
  obtain ⟨fu1, hf1⟩ := h1
  obtain ⟨cs1⟩ := cs1
  simp only [Value.cells] at hf1
  obtain ⟨xs1, n1, _, _, hl1, hlen1, hg1⟩ := DataW.trod_struct Try.underlying23 hf1
  obtain ⟨y1_0, hy1_0⟩ : ∃ y, xs1[0]? = some y := ⟨_, List.getElem?_eq_getElem (by rw [hlen1]; decide)⟩
  have z1_0 := (hg1 0 _ rfl).trans hy1_0
  obtain ⟨a1_0, e1_0, _⟩ := DataW.trod_bool Try.underlying4 z1_0
  obtain ⟨y1_1, hy1_1⟩ : ∃ y, xs1[1]? = some y := ⟨_, List.getElem?_eq_getElem (by rw [hlen1]; decide)⟩
  have z1_1 := (hg1 1 _ rfl).trans hy1_1
  obtain ⟨a1_1, e1_1, _⟩ := DataW.trod_bool Try.underlying4 z1_1
  obtain ⟨y1_2, hy1_2⟩ : ∃ y, xs1[2]? = some y := ⟨_, List.getElem?_eq_getElem (by rw [hlen1]; decide)⟩
  have z1_2 := (hg1 2 _ rfl).trans hy1_2
  obtain ⟨a1_2, e1_2, _⟩ := DataW.trod_bool Try.underlying4 z1_2
  obtain ⟨y1_3, hy1_3⟩ : ∃ y, xs1[3]? = some y := ⟨_, List.getElem?_eq_getElem (by rw [hlen1]; decide)⟩
  have z1_3 := (hg1 3 _ rfl).trans hy1_3
  obtain ⟨a1_3, e1_3, _⟩ := DataW.trod_bool Try.underlying4 z1_3
  obtain ⟨y1_4, hy1_4⟩ : ∃ y, xs1[4]? = some y := ⟨_, List.getElem?_eq_getElem (by rw [hlen1]; decide)⟩
  have z1_4 := (hg1 4 _ rfl).trans hy1_4
  obtain ⟨a1_4, e1_4, _⟩ := DataW.trod_bool Try.underlying4 z1_4
  obtain ⟨y1_5, hy1_5⟩ : ∃ y, xs1[5]? = some y := ⟨_, List.getElem?_eq_getElem (by rw [hlen1]; decide)⟩
  have z1_5 := (hg1 5 _ rfl).trans hy1_5
  obtain ⟨a1_5, e1_5, _⟩ := DataW.trod_bool Try.underlying4 z1_5
  have hz1' : cs1.length = 6 := hz1.trans (by kernel_rfl)
  obtain ⟨b1_0, b1_1, b1_2, b1_3, b1_4, b1_5, hcs1⟩ := list6 hz1'
  subst hcs1
  have fe1_0 : [b1_0] = _ := e1_0
  obtain rfl := (List.cons.inj fe1_0).1
  have fe1_1 : [b1_1] = _ := e1_1
  obtain rfl := (List.cons.inj fe1_1).1
  have fe1_2 : [b1_2] = _ := e1_2
  obtain rfl := (List.cons.inj fe1_2).1
  have fe1_3 : [b1_3] = _ := e1_3
  obtain rfl := (List.cons.inj fe1_3).1
  have fe1_4 : [b1_4] = _ := e1_4
  obtain rfl := (List.cons.inj fe1_4).1
  have fe1_5 : [b1_5] = _ := e1_5
  obtain rfl := (List.cons.inj fe1_5).1
  obtain ⟨k, hp⟩ := Pure.FlagsRead l0 a1_0 a1_1 a1_2 a1_3 a1_4 a1_5 ⟨Nat.le_trans hc0 hm0, hg0⟩
  clear hA0 hval0 hsz0 hsz
  refine (paliolaw12_FlagsRead.calls k _ _ l0 a1_0 a1_1 a1_2 a1_3 a1_4 a1_5 true W hr0 hc0 hp).mono fun e W' ⟨he, bel0⟩ => ?_
  have bel : Below W.heap.size W W' := bel0
  subst he
  exact ⟨_, rfl, _, _, _, [], _, [], hW', trodAll_mk1 (shut_bool Try.underlying4 _), (trodAll_cons_mk (Below.trod laidOut (by kernel_rfl) (of_decide_eq_true (by kernel_rfl)) k0 bel lt0) (trodAll_cons_mk (Below.trod laidOut (by kernel_rfl) (of_decide_eq_true (by kernel_rfl)) k1 bel lt1) trodAll_mk0)), rfl, bel.frame _, fun h => by cases h⟩
theorem over : Rows.flagsReadRow.holds Try.pinned (OpenSpec.ofChange Rows.flagsReadSpec) :=
  OpenClaim.holds_of_wide 7 Try.f7 rfl rfl rfl rfl rfl rfl rfl ⟨rfl, rfl, rfl, rfl, rfl⟩ rfl rfl rfl rfl rfl (by kernel_rfl) Try.func7 (by kernel_rfl)
    (of_decide_eq_true (by kernel_rfl)) (by unfold Func.isWrapper; first | (rw [if_pos (by decide +kernel)]; kernel_rfl) | (rw [if_neg (by decide +kernel)]; exact ⟨rfl, rfl⟩))
    (fun os started H enc _ => lifted os started H enc)
theorem proved : Rows.FlagsReadSaid := over
#print axioms proved
end Go.Proofs.Ytndjbhibajjaoaa.flagsRead
namespace Go.Proofs.Ytndjbhibajjaoaa
/-- The row, under a short name, for the claim. -/
theorem flagsRead_holds : Rows.FlagsReadSaid := flagsRead.proved
end Go.Proofs.Ytndjbhibajjaoaa
