/- What is added and taken away again is what it was; sums and products do not hang on the order: the pure part. Conditions: none. -/
import Derived.Test.YtbhgpaeaaembjaaPureIntsSums
import Derived.Test.YtbhgpaeaaembjaaPx4
namespace Go.Proofs.Ytbhgpaeaaembjaa.Pure
open Go.RowKit Go.Proofs.YtbhgpaeaaembjaaW.PrintWords Go.Proofs.YtbhgpaeaaembjaaW.PrintLast Go.Proofs.YtbhgpaeaaembjaaW.PrintMore Go.Proofs.Ytbhgpaeaaembjaa.P

theorem told_fits (n : Int) : fits (told n).1 := by
  unfold told
  split
  · assumption
  · unfold fits; omega
theorem IntsTurns : ∀ (a0 : Int) (a1 : Int), (Lit.int .i64 a0).wf = true → (Lit.int .i64 a1).wf = true → paliolaw01_IntsTurns.f a0 a1 = some true := by
  intro a b ha hb
  have h1 : fits a := wf64 ha
  have h2 : fits b := wf64 hb
  unfold paliolaw01_IntsTurns.f
  rw [shown_true, add_own a b h1 h2, add_own b a h2 h1, mul_own a b h1 h2, mul_own b a h2 h1, Int.add_comm b a, Int.mul_comm b a]
  simp only [Option.bind_some, if_true]
  rw [sub_own _ b (told_fits _) h2]
  simp only [Option.bind_some]
  by_cases hs : fits (a + b)
  · rw [told_yes hs]
    have e : a + b - b = a := by omega
    simp only [e, told_yes h1]
    by_cases hm : fits (a * b)
    · rw [told_yes hm]; simp
    · rw [told_no hm]; simp
  · rw [told_no hs]
    by_cases hm : fits (a * b)
    · rw [told_yes hm]; simp
    · rw [told_no hm]; simp
end Go.Proofs.Ytbhgpaeaaembjaa.Pure
