/- Without flags a member gets what it is given: the pure part. Conditions: none. -/
import Derived.Test.YtndjbhibajjaoaaPureFlagsTwice
namespace Go.Proofs.Ytndjbhibajjaoaa.Pure
open Go.RowKit Go.Proofs.YtndjbhibajjaoaaW.PrintWords Go.Proofs.YtndjbhibajjaoaaW.PrintLast Go.Proofs.Ytndjbhibajjaoaa.P

theorem FlagsNone : ∀ (a0 : Bool) (a1 : Int) (a2 : Int), (Lit.int .i64 a1).wf = true → (Lit.int .i64 a2).wf = true → paliolaw12_FlagsNone.f a0 a1 a2 = some true := by
  intro a0 a1 a2 _ _
  unfold paliolaw12_FlagsNone.f
  simp only [shown_true, dec_own0, Option.bind_some, if_true]
  by_cases h1 : a2 = a1
  · subst h1
    cases a0 <;> simp [dec, decided]
  · have h2 : ¬ a1 = a2 := fun h => h1 h.symm
    cases a0 <;> simp [dec, decided, h1, h2]
end Go.Proofs.Ytndjbhibajjaoaa.Pure
