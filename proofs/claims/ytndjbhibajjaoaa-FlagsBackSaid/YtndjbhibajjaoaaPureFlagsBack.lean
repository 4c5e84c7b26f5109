/- Words and flags are one to one, at any six flags: the pure part. Conditions: none. -/
import Derived.Test.YtndjbhibajjaoaaPH13
namespace Go.Proofs.Ytndjbhibajjaoaa.Pure
open Go.RowKit Go.Proofs.YtndjbhibajjaoaaW.PrintWords Go.Proofs.YtndjbhibajjaoaaW.PrintLast Go.Proofs.Ytndjbhibajjaoaa.P

theorem FlagsBack : ∀ (a0_0 : Bool) (a0_1 : Bool) (a0_2 : Bool) (a0_3 : Bool) (a0_4 : Bool) (a0_5 : Bool), paliolaw12_FlagsBack.f a0_0 a0_1 a0_2 a0_3 a0_4 a0_5 = some true := by
  intro _ _ _ _ _ _
  rfl

end Go.Proofs.Ytndjbhibajjaoaa.Pure
