/- 0 less a number is that number times -1; a number times 1 is itself: the pure part. Conditions: none. -/
import Derived.Test.YtbhgpaeaaembjaaPureIntsSums
import Derived.Test.YtbhgpaeaaembjaaPx4
namespace Go.Proofs.Ytbhgpaeaaembjaa.Pure
open Go.RowKit Go.Proofs.YtbhgpaeaaembjaaW.PrintWords Go.Proofs.YtbhgpaeaaembjaaW.PrintLast Go.Proofs.YtbhgpaeaaembjaaW.PrintMore Go.Proofs.Ytbhgpaeaaembjaa.P

theorem IntsSigns : ∀ (a0 : Int), (Lit.int .i64 a0).wf = true → paliolaw01_IntsSigns.f a0 = some true := by
  intro a ha
  have h1 : fits a := wf64 ha
  have h0 : fits 0 := by decide
  have hp : fits 1 := by decide
  have hm : fits (-1) := by decide
  unfold paliolaw01_IntsSigns.f
  rw [shown_true, sub_own 0 a h0 h1, mul_own (-1) a hm h1, mul_own a 1 h1 hp, add_own a 0 h1 h0, Int.mul_one, Int.add_zero, told_yes h1, show 0 - a = -1 * a by omega]
  simp only [Option.bind_some, if_true]
  by_cases hn : a = -9223372036854775808
  · subst hn; decide +kernel
  · rw [told_yes (show fits (-1 * a) by unfold fits at *; omega)]
    simp [hn]
end Go.Proofs.Ytbhgpaeaaembjaa.Pure
