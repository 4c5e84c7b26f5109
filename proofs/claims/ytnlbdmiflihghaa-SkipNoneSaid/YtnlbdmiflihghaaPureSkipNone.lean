/- The plain part of the statement SkipNone: whatever is drawn, the answer is true. Conditions: those that it names. -/
import Derived.Test.YtnlbdmiflihghaaPL7
namespace Go.Proofs.Ytnlbdmiflihghaa.Pure
open Go.RowKit Go.Proofs.YtnlbdmiflihghaaW.PrintWords Go.Proofs.YtnlbdmiflihghaaW.PrintLast Go.Proofs.Ytnlbdmiflihghaa.P

theorem SkipNone : ∀ (a0_0 : Int) (a0_1 : ByteArray) (a0_2 : Int) (a0_3 : Int) (a0_4 : Int) (a0_5 : Int), (Lit.int .i64 a0_0).wf = true → a0_1.size ≤ maxLen → (Lit.int .i64 a0_2).wf = true → (Lit.int .i64 a0_3).wf = true → (Lit.int .i64 a0_4).wf = true → (Lit.int .i64 a0_5).wf = true → paliolaw10_SkipNone.f a0_0 a0_1 a0_2 a0_3 a0_4 a0_5 = some true := by
  intros
  rfl

end Go.Proofs.Ytnlbdmiflihghaa.Pure
