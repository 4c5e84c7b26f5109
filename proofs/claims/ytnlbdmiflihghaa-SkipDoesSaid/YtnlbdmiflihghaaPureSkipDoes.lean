/- The plain part of the statement SkipDoes: whatever is drawn, the answer is true. Conditions: those that it names. -/
import Derived.Test.YtnlbdmiflihghaaPL4
namespace Go.Proofs.Ytnlbdmiflihghaa.Pure
open Go.RowKit Go.Proofs.YtnlbdmiflihghaaW.PrintWords Go.Proofs.YtnlbdmiflihghaaW.PrintLast Go.Proofs.Ytnlbdmiflihghaa.P

theorem SkipDoes : ∀ (l0 : List S39), (l0.length ≤ maxLen) → paliolaw10_SkipDoes.f l0 = some true := by
  intros
  rfl

end Go.Proofs.Ytnlbdmiflihghaa.Pure
