/- The statement CommandOwn: at every input the law answers true, and leaves its arguments as they read. -/
import Derived.Test.YtegmbgjolnbgpaaDoorRows
import Derived.Test.YtegmbgjolnbgpaaDoorCards
import Derived.Test.YtegmbgjolnbgpaaDoorTie
import Derived.Test.YtegmbgjolnbgpaaDoorRS
import Derived.Test.YtegmbgjolnbgpaaDoorCT
import Derived.SevenTiedAt
import Derived.WalkKit
import Derived.ProofKit
import Derived.OpenShut
import Derived.ShutString
import Derived.ChangeOld
import Derived.Below
import Derived.SizedLaws
import Derived.Deep.Slices
import Derived.ChangeSame
import Derived.Laws.Tables
namespace Go.Proofs.YtegmbgjolnbgpaaDoor.commandOwn
open Go.ChangeShapes Go.WideShapes Go.ChangeAt Go.RowKit Go.Proofs.YtegmbgjolnbgpaaDoorW.PrintWords Go.Proofs.YtegmbgjolnbgpaaDoorW.PrintLast Go.Proofs.YtegmbgjolnbgpaaDoor.P
open Go.ChangeMaps (open_string shut_string)
theorem own : ownKnob Tryd.prog.godebug = none := by kernel_rfl
theorem laidOut : laidOutB Tryd.prog = true := by kernel_rfl
theorem row_of_trod {H : Type} {enc : TypeId × Value → H} {P : Program} {W : World} {spare : Nat → Bool} {held : Bool} {t e : TypeId} {fuel : Nat} {cs : List Value} {x : DataW H × List MemPlace} {α : Type} {d : Kd α} {Good : α → Prop}
    (ht : P.underlying t = some (.slice e)) (hsz : P.cellsOf e = d.sz) (hel : ∀ n cs' y, DataW.trod enc P W 0 spare held n e cs' = some y → ∃ v, d.K W v cs' ∧ Good v) (h : DataW.trod enc P W 0 spare held fuel t cs = some x) :
    ∃ (l : List α) (a : Option Addr) (c : Nat), cs = [.slice a l.length c] ∧ l.length ≤ c ∧ c ≤ maxLen ∧ Kd.C d W a l.length l ∧ ∀ v ∈ l, Good v := by
  rcases Go.Deep.open_slice ht h with ⟨rfl, _⟩ | ⟨a, len, cap, m, n, D, Pl, rfl, _, hl, hm, hmm, _, hx⟩
  · exact ⟨[], none, 0, rfl, Nat.le_refl _, Nat.zero_le _, ⟨rfl, Nat.zero_le _, fun h => absurd h (Nat.lt_irrefl _)⟩, fun v hv => by cases hv⟩
  · have hle : len ≤ m := by rw [hmm]; split <;> omega
    have pick : ∀ i : Fin len, ∃ v : α, ∃ cs', W.cells? 0 (a.add (i.val * P.cellsOf e)) (P.cellsOf e) = some cs' ∧ d.K W v cs' ∧ Good v := fun i => by
      obtain ⟨cs', h1, h2⟩ := hx i.val (by omega)
      obtain ⟨v, hv⟩ := hel _ _ _ h2
      exact ⟨v, cs', h1, hv⟩
    obtain ⟨f, hf⟩ := Classical.axiomOfChoice pick
    have hlen : (List.ofFn f).length = len := List.length_ofFn
    refine ⟨List.ofFn f, some a, cap, by rw [hlen], by omega, hm, ⟨rfl, by rw [hlen]; unfold maxLen at hm; omega, fun _ => ⟨a, rfl, fun j p hj => ?_⟩⟩, fun v hv => ?_⟩
    · have hjl : j < len := by
        rcases Nat.lt_or_ge j len with h' | h'
        · exact h'
        · rw [List.getElem?_eq_none (by omega)] at hj; cases hj
      obtain ⟨cs', h1, h2, _⟩ := hf ⟨j, hjl⟩
      have hp : p = f ⟨j, hjl⟩ := by simpa [List.getElem?_ofFn, hjl] using hj.symm
      subst hp
      refine ⟨cs', d.K_len h2, h2, fun i u hu => ?_⟩
      obtain ⟨_, hlen', hat⟩ := World.cells?_some h1
      have hi : i < cs'.length := (List.getElem?_eq_some_iff.1 hu).1
      have hc := hat i (by omega)
      rw [hu] at hc
      rw [← hsz, ← hc, Go.Deep.add_add]
    · obtain ⟨i, rfl⟩ := List.mem_ofFn.1 hv
      obtain ⟨_, _, _, h3⟩ := hf i
      exact h3

def GoodS (x : ByteArray) : Prop := x.size ≤ maxLen
theorem elS {H : Type} {enc : TypeId × Value → H} {W : World} {spare : Nat → Bool} {held : Bool} {fuel : Nat} {cs : List Value} {x : DataW H × List MemPlace} (h : DataW.trod enc Tryd.prog W 0 spare held fuel 9 cs = some x) : ∃ v : ByteArray, (Kd.string).K W v cs ∧ GoodS v := by
  obtain ⟨s, rfl, _, hs⟩ := DataW.trod_string Tryd.underlying9 h
  exact ⟨s, rfl, hs⟩
def GoodI (x : Int) : Prop := (Lit.int .i64 x).wf = true
theorem elI {H : Type} {enc : TypeId × Value → H} {W : World} {spare : Nat → Bool} {held : Bool} {fuel : Nat} {cs : List Value} {x : DataW H × List MemPlace} (h : DataW.trod enc Tryd.prog W 0 spare held fuel 2 cs = some x) : ∃ v : Int, ((Kd.int .i64)).K W v cs ∧ GoodI v := by
  obtain ⟨n, rfl, _, hw⟩ := DataW.trod_int Tryd.underlying2 h
  exact ⟨n, rfl, hw⟩
set_option maxRecDepth 100000 in
theorem lifted (os : Os) (started : os.Started) (H : Type) (enc : TypeId × Value → H) :
    ReturnsInHanded {} Tryd.checked os 3 .any (fun w args => (Rows.commandOwnSpec.pre enc Tryd.prog Tryd.f3 [] false w args ∧ laidMetH Tryd.prog laidE w) ∧ sizedMet enc Tryd.prog Tryd.f3 (OpenSpec.ofChange Rows.commandOwnSpec) false w args)
      (Rows.commandOwnSpec.post enc Tryd.prog Tryd.f3 false true false false) := by
  refine rih_and_shaped (C := Tryd.checked) (X := fun w => laidMetH Tryd.prog laidE w) (fun _ _ hh h => h.of_heap hh) own started (by kernel_rfl) Tryd.func3
    (ChangeSpec.witness_shaped (enc := enc) (C := Tryd.checked) (os := os) (X := fun w _ => laidMetH Tryd.prog laidE w) false (World.doorLaid Tryd.prog 4000 os) #[.slice none 0 0] 8 rfl (World.shaped_of_RefB (by kernel_rfl) (by kernel_rfl)) (by kernel_rfl) (by kernel_rfl) (by kernel_rfl) (metE os _)) ?_
  intro W base args ds gs before hval0 hW hsz0 hL hSh
  have hsz : (DataW.weightsEach Tryd.prog (Tryd.f3.params.toList ++ Rows.commandOwnSpec.plain.varTypes Tryd.prog) (ds ++ gs)).all (· ≤ reachBytes) = true := hsz0
  have hg := g_of hL
  have hval : ∀ (j : Nat) t v, Tryd.f3.params[j]? = some t → args[j]? = some v → Value.okWide Tryd.prog W .any base t v := hval0
  have hW' := hW
  obtain ⟨p, q, hA0, hV, rfl, hfz, hnd⟩ := hW
  have hA : DataW.TrodAll enc Tryd.prog W 0 (fun _ => true) true Tryd.f3.params.toList args.toList ds p := hA0
  rw [Tryd.params3] at hA hval hsz
  obtain ⟨v0, vs0, d0, ds0, p0, q0, hargs, rfl, rfl, h0, r0⟩ := trodAll_cons hA
  obtain ⟨rfl, rfl, rfl⟩ := trodAll_nil r0
  obtain rfl : args = #[v0] := by cases args; simp_all
  obtain ⟨rfl, rfl⟩ := trodVars_none hV
  have k0 := h0
  have lt0 : ∀ x ∈ p0, x.block < W.heap.size := by obtain ⟨m, hm⟩ := k0; exact DataW.trod_lt m _ _ _ hm
  obtain ⟨A0, len0, c0, rfl⟩ := okWide_slice Tryd.underlying22 (hval 0 22 v0 rfl rfl)
  obtain ⟨fu0, hf0⟩ := h0
  obtain ⟨l0, A0', c0', e0, hc0, hm0, hr0, hg0⟩ := row_of_trod (d := Kd.string) (Good := GoodS) Tryd.underlying22 rfl (fun _ _ _ h' => elS h') hf0
  simp only [Value.cells, List.cons.injEq, Value.slice.injEq, and_true] at e0
  obtain ⟨rfl, rfl, rfl⟩ := e0
  clear hA0 hval0
  refine (Own_calls l0 _ _ W hg hr0 hc0).mono fun e W' ⟨he, bel0⟩ => ?_
  have bel : Below W.heap.size W W' := bel0
  subst he
  exact ⟨_, rfl, _, _, _, [], _, [], hW', trodAll_mk1 (shut_bool Tryd.underlying4 _), (trodAll_cons_mk (Below.trod laidOut (by kernel_rfl) (of_decide_eq_true (by kernel_rfl)) k0 bel lt0) trodAll_mk0), rfl, bel.frame _, fun h => by cases h⟩
theorem over : Rows.commandOwnRow.holds Tryd.pinned (OpenSpec.ofChange Rows.commandOwnSpec) :=
  OpenClaim.holds_of_wide 3 Tryd.f3 rfl rfl rfl rfl rfl rfl rfl ⟨rfl, rfl, rfl, rfl, rfl⟩ rfl rfl rfl rfl rfl (by kernel_rfl) Tryd.func3 (by kernel_rfl)
    (of_decide_eq_true (by kernel_rfl)) (by unfold Func.isWrapper; first | (rw [if_pos (by decide +kernel)]; kernel_rfl) | (rw [if_neg (by decide +kernel)]; exact ⟨rfl, rfl⟩))
    (fun os started H enc _ => lifted os started H enc)
theorem proved : Rows.CommandOwnSaid := over
#print axioms proved
theorem card : Rows.CommandOwnCardSaid :=
  Claim7.holds_tied_plain_at .later [] [.handle] true (true, "2d80aaf668db7b5b825e8b00b4e4e6dfcfe5b7eb1c3a9da48b21fe7aaa1e60db") true
    proved (fun _ h => by cases h) (by kernel_rfl) (fun _ h => by cases h) commandOwn_row_tie rfl ⟨rfl, rfl⟩ (by kernel_rfl) rfl
    (fun f fn hf hfn => by
      obtain rfl : f = 3 := Option.some.inj ((show Tryd.prog.funcNamed "palio/paliolaw17.CommandOwn" = some 3 by kernel_rfl).symm.trans hf) |>.symm
      obtain rfl : fn = Tryd.f3 := (Option.some.inj (Tryd.func3.symm.trans hfn)).symm
      exact ⟨by kernel_rfl, fun j t ht => by
        rw [Tryd.params3] at ht
        have hm : t ∈ [22] := by simpa using Array.mem_of_getElem? ht
        have hall : ([22].all fun u => !Tryd.prog.wantsStandIn u) = true := by kernel_rfl
        exact (show Tryd.prog.wantsStandIn t = false by simpa using List.all_eq_true.1 hall t hm)⟩)
    (by kernel_rfl)
end Go.Proofs.YtegmbgjolnbgpaaDoor.commandOwn
namespace Go.Proofs.YtegmbgjolnbgpaaDoor
/-- The card, under a short name, for the claim. -/
theorem commandOwnCard_holds : Rows.CommandOwnCardSaid := commandOwn.card
end Go.Proofs.YtegmbgjolnbgpaaDoor
