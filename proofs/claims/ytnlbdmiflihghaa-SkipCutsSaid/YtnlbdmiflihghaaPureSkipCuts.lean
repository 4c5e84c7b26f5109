/- The plain part of the statement SkipCuts: whatever is drawn, the answer is true. Conditions: those that it names. -/
import Derived.Test.YtnlbdmiflihghaaPL5
namespace Go.Proofs.Ytnlbdmiflihghaa.Pure
open Go.RowKit Go.Proofs.YtnlbdmiflihghaaW.PrintWords Go.Proofs.YtnlbdmiflihghaaW.PrintLast Go.Proofs.Ytnlbdmiflihghaa.P

theorem SkipCuts : ∀ (l0 : List S39) (a1 : Int) (a2 : Int), (l0.length ≤ maxLen) → (Lit.int .i64 a1).wf = true → (Lit.int .i64 a2).wf = true → paliolaw10_SkipCuts.f l0 a1 a2 = some true := by
  intros
  rfl

end Go.Proofs.Ytnlbdmiflihghaa.Pure
