/- What is decided twice is decided once, without Incr: the pure part. Conditions: none. -/
import Derived.Test.YtndjbhibajjaoaaPureFlagsDecide
import Derived.Test.YtndjbhibajjaoaaPx5
namespace Go.Proofs.Ytndjbhibajjaoaa.Pure
open Go.RowKit Go.Proofs.YtndjbhibajjaoaaW.PrintWords Go.Proofs.YtndjbhibajjaoaaW.PrintLast Go.Proofs.Ytndjbhibajjaoaa.P

theorem dec_own0 (a0_0 a0_1 a0_2 a0_3 a0_4 a1 : Bool) (a2 a3 : Int) : flags_Decide.f a0_0 a0_1 a0_2 a0_3 a0_4 false a1 a2 a3 = some (dec a0_0 a0_1 a0_2 a0_3 false a1 a2 a3) := by
  simp only [flags_Decide.f, flags_Right.f, Option.bind_some, dec]
  cases a1 <;> cases a0_0 <;> cases a0_1 <;> cases a0_2 <;> cases a0_3 <;> simp
theorem FlagsTwice : ∀ (a0_0 : Bool) (a0_1 : Bool) (a0_2 : Bool) (a0_3 : Bool) (a0_4 : Bool) (a0_5 : Bool) (a1 : Bool) (a2 : Int) (a3 : Int), (Lit.int .i64 a2).wf = true → (Lit.int .i64 a3).wf = true → paliolaw12_FlagsTwice.f a0_0 a0_1 a0_2 a0_3 a0_4 a0_5 a1 a2 a3 = some true := by
  intro a0_0 a0_1 a0_2 a0_3 a0_4 a0_5 a1 a2 a3 _ _
  unfold paliolaw12_FlagsTwice.f
  simp only [shown_true, dec_own0, Option.bind_some, if_true]
  by_cases h1 : a3 = a2
  · subst h1
    cases a1 <;> cases a0_0 <;> cases a0_1 <;> cases a0_2 <;> cases a0_3 <;> simp [dec, decided]
  · by_cases h2 : a3 < a2
    · have h3 : ¬ a2 < a3 := by omega
      cases a1 <;> cases a0_0 <;> cases a0_1 <;> cases a0_2 <;> cases a0_3 <;> simp [dec, decided, h1, h2, h3]
    · have h3 : a2 < a3 := by omega
      cases a1 <;> cases a0_0 <;> cases a0_1 <;> cases a0_2 <;> cases a0_3 <;> simp [dec, decided, h1, h2, h3]
end Go.Proofs.Ytndjbhibajjaoaa.Pure
