/- The plain part of the statement SkipSpans: whatever is drawn, the answer is true. Conditions: those that it names. -/
import Derived.Test.YtnlbdmiflihghaaPL2
namespace Go.Proofs.Ytnlbdmiflihghaa.Pure
open Go.RowKit Go.Proofs.YtnlbdmiflihghaaW.PrintWords Go.Proofs.YtnlbdmiflihghaaW.PrintLast Go.Proofs.Ytnlbdmiflihghaa.P

theorem SkipSpans : ∀ (l0 : List S39) (a1 : Int), (l0.length ≤ maxLen) → (Lit.int .i64 a1).wf = true → paliolaw10_SkipSpans.f l0 a1 = some true := by
  intros
  rfl

end Go.Proofs.Ytnlbdmiflihghaa.Pure
