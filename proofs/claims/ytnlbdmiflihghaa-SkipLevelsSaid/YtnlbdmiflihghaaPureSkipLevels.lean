/- The plain part of the statement SkipLevels: whatever is drawn, the answer is true. Conditions: those that it names. -/
import Derived.Test.YtnlbdmiflihghaaPL3
namespace Go.Proofs.Ytnlbdmiflihghaa.Pure
open Go.RowKit Go.Proofs.YtnlbdmiflihghaaW.PrintWords Go.Proofs.YtnlbdmiflihghaaW.PrintLast Go.Proofs.Ytnlbdmiflihghaa.P

theorem SkipLevels : ∀ (l0 : List S39) (l1 : List Int) (l2 : List Int), (l0.length ≤ maxLen) → (l1.length ≤ maxLen) → (l2.length ≤ maxLen) → paliolaw10_SkipLevels.f l0 l1 l2 = some true := by
  intros
  rfl

end Go.Proofs.Ytnlbdmiflihghaa.Pure
