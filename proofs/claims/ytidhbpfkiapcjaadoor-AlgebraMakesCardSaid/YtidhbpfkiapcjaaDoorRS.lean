/- A row whose condition lists package variables: what the condition gives the walks. Conditions: none. -/
import Derived.HandedShaped
import Derived.LaidMore
import Derived.LaidHandle
import Derived.LaidLaws
import Derived.Stop.Joined
import Derived.Lib.LaidTab
import Derived.Test.YtidhbpfkiapcjaaDoorBF
import Derived.Test.YtidhbpfkiapcjaaDoorRows
namespace Go.Proofs.YtidhbpfkiapcjaaDoor.P
open Go.RowKit Go.Lib
section
variable {H : Type} {enc : TypeId × Value → H}
theorem rih_and_shaped {a : Assume} {C : Checked} {os : Os} {f : FuncId} {fn : Func} {s : ChangeSpec} {conds : List PathCond} {apart fresh handsOn again : Bool} {X : World → Prop}
    (hX : ∀ (w w' : World), w.heap = w'.heap → X w → X w')
    (own : ownKnob C.prog.godebug = none) (started : os.Started) (noInit : C.prog.inits.idxOf? f = none) (hfn : C.prog.funcs[f]? = some fn)
    (witness : ∃ (w : World) (tape : Tape) (i : Input), w.os = os ∧ (w.forCall tape i).Shaped C.prog ∧ i.vars = [] ∧ Input.okWide C.prog (w.forCall tape i) .any w.heap.size f i ∧
      ((s.pre enc C.prog fn conds apart (w.forCall tape i).memory i.args ∧ X (w.forCall tape i).memory) ∧ sizedMet enc C.prog fn (OpenSpec.ofChange s) apart (w.forCall tape i).memory i.args) ∧ a.holds C.prog (lone (Frame.enter C.prog f i.args .normal) [] (w.forCall tape i)))
    (contract : ∀ (W : World) (base : Nat) (args : Array Value) (ds gs : List (DataW H)) (before : List MemPlace),
      (∀ (j : Nat) t v, fn.params[j]? = some t → args[j]? = some v → Value.okWide C.prog W .any base t v) →
      DataW.Whole enc C.prog fn.params.toList s.vars apart W args.toList ds gs before →
      (DataW.weightsEach C.prog (fn.params.toList ++ s.plain.varTypes C.prog) (ds ++ gs)).all (· ≤ reachBytes) = true → X W → W.ShapedOpen C.prog →
      Calls C.prog f args W fun e W' => ∃ v, e = .returned v ∧ s.post enc C.prog fn apart fresh handsOn again W args v W') :
    ReturnsInHanded a C os f .any (fun w args => (s.pre enc C.prog fn conds apart w args ∧ X w) ∧ sizedMet enc C.prog fn (OpenSpec.ofChange s) apart w args) (s.post enc C.prog fn apart fresh handsOn again) := by
  refine returnsInHanded_of_calls own started noInit witness ?_
  rintro w tape i _ hsh _ ⟨_, _, _, fn', hfn', _, _, _, _, hval⟩ ⟨⟨⟨ds, gs, before, hw, _⟩, hx⟩, hz⟩ _
  obtain rfl : fn' = fn := Option.some.inj (hfn'.symm.trans hfn)
  refine (contract (w.forCall tape i) w.heap.size i.args ds gs before hval (DataW.Whole.of_heap (w' := w.forCall tape i) (by rfl) hw) (hz.weights hw) (hX _ _ (by rfl) hx) hsh).mono fun e W' he => ?_
  obtain ⟨v, rfl, hp⟩ := he
  exact ChangeSpec.post_blind hp
end
theorem gSets : Tryd.prog.globalNamed "palio/algebra.errSets" = some 0 := by kernel_rfl
theorem gOver : Tryd.prog.globalNamed "palio/algebra.errOver" = some 1 := by kernel_rfl
theorem tSets : (Tryd.prog.globals[0]?).map (·.type) = some 42 := by kernel_rfl
theorem tOver : (Tryd.prog.globals[1]?).map (·.type) = some 42 := by kernel_rfl
theorem cells150 : Tryd.prog.cellsOf 150 = 1 := by kernel_rfl
theorem cells9 : Tryd.prog.cellsOf 9 = 1 := by kernel_rfl
theorem starE : "*" ++ "errors.errorString" = "*errors.errorString" := by decide
theorem row125 (u : TypeId) (h : Tryd.prog.typeName? 3 u = some "*errors.errorString") : u = 125 :=
  typeName_ptr_named (nm := "errors.errorString") (by rw [starE]; kernel_rfl) (by kernel_rfl) (by decide) u (by rw [starE]; exact h)
def laidS : List (String × DataW Unit) := [("palio/algebra.errSets", Rows.laid_palio_algebra_errSets), ("palio/algebra.errOver", Rows.laid_palio_algebra_errOver)]
set_option maxRecDepth 100000 in
theorem g2_of {W : World} (h : laidMetH Tryd.prog laidS W) : ∃ p q, G2 p q W := by
  have h' : laidMet Tryd.prog laidS W := h
  obtain ⟨ps, ⟨g0, t0, cs0, f0, p0, q0, hg0, ht0, hv0, hd0, ⟨g1, t1, cs1, f1, p1, q1, hg1, ht1, hv1, hd1, hq1, e1⟩, e0⟩, hnd, hrows⟩ := h'
  obtain rfl := Option.some.inj (gSets.symm.trans hg0)
  obtain rfl := Option.some.inj (gOver.symm.trans hg1)
  obtain rfl := Option.some.inj (tSets.symm.trans ht0)
  obtain rfl := Option.some.inj (tOver.symm.trans ht1)
  have hq1' : q1 = [] := hq1
  subst hq1'
  subst e1
  subst e0
  obtain ⟨l0⟩ := cs0
  obtain ⟨l1⟩ := cs1
  have ok0 : ∀ u v, l0 = [.iface u v] → Value.okWide Tryd.prog W .any 0 u v := fun u v e => by
    subst e
    exact (hrows 0 0 (by simp [MemPlace.row])).2 u v (by simpa using World.var?_cell hg0 hv0 0)
  have ok1 : ∀ u v, l1 = [.iface u v] → Value.okWide Tryd.prog W .any 0 u v := fun u v e => by
    subst e
    exact (hrows 1 0 (by simp [MemPlace.row])).2 u v (by simpa using World.var?_cell hg1 hv1 0)
  obtain ⟨a0, s0, rfl, hc0, hs0, hz0, rfl⟩ := errorString_of_trod Tryd.underlying42 row125 Tryd.underlying125 Tryd.underlying150 rfl rfl Tryd.underlying9 cells150 cells9 hd0 ok0
  obtain ⟨a1, s1, rfl, hc1, hs1, hz1, rfl⟩ := errorString_of_trod Tryd.underlying42 row125 Tryd.underlying125 Tryd.underlying150 rfl rfl Tryd.underlying9 cells150 cells9 hd1 ok1
  obtain ⟨c0, t0, hb0⟩ := (hrows a0.block a0.off (by simp [MemPlace.row])).1
  obtain ⟨c1, t1, hb1⟩ := (hrows a1.block a1.off (by simp [MemPlace.row])).1
  refine ⟨a0, a1, ⟨?_, by have := World.var?_cell hg0 hv0 0; unfold erV; simpa using this, by have := World.var?_cell hg1 hv1 0; unfold erV; simpa using this⟩, ⟨c0, t0, hb0⟩, ⟨c1, t1, hb1⟩⟩
  rintro rfl
  simp [MemPlace.row] at hnd
theorem metS (os : Os) (args : Array Value) : laidMetH Tryd.prog laidS ((World.doorLaid Tryd.prog 4000 os).forCall (fun _ _ => 0) ⟨#[], args, []⟩).memory :=
  laidMet_of_run' 8 (by kernel_rfl) (by kernel_rfl)
end Go.Proofs.YtidhbpfkiapcjaaDoor.P
