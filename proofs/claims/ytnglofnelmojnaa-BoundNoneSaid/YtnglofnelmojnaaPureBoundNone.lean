/- Between two ends of which the first one is greater there is nothing; between one number twice just it: the pure part. Conditions: none. -/
import Derived.Test.YtnglofnelmojnaaPureBound
import Derived.Test.YtnglofnelmojnaaPx8
namespace Go.Proofs.Ytnglofnelmojnaa.Pure
open Go.RowKit Go.Proofs.YtnglofnelmojnaaW.PrintWords Go.Proofs.YtnglofnelmojnaaW.PrintLast Go.Proofs.YtnglofnelmojnaaW.PrintMore Go.Proofs.Ytnglofnelmojnaa.P

theorem BoundNone : ∀ (a0 : Int) (a1 : Int) (a2 : Int) (a3 : Bool) (a4 : Bool), (Lit.int .i64 a0).wf = true → (Lit.int .i64 a1).wf = true → (Lit.int .i64 a2).wf = true → paliolaw09_BoundNone.f a0 a1 a2 a3 a4 = some true := by
  intro n a b out off _ _ _
  unfold paliolaw09_BoundNone.f
  rw [shown_true]
  simp only [Option.bind_some, in_own, if_true, lowB, highB]
  have hn : n < a ∨ n = a ∨ a < n := by omega
  by_cases h : a ≤ b
  · rw [if_pos h]
    rcases hn with h1 | rfl | h1
    · simp [h1, show ¬ a < n by omega, show ¬ n = a by omega]
    · cases out <;> cases off <;> simp
    · simp [h1, show ¬ n < a by omega, show ¬ n = a by omega]
  · rw [if_neg h]
    have h2 : n < b → n < a := by omega
    by_cases h3 : n < b
    · simp [h3, h2 h3, show ¬ a < n by omega]
    · by_cases h4 : b < n
      · simp [h3, h4]
      · have : n < a := by omega
        simp [this, show ¬ a < n by omega]
end Go.Proofs.Ytnglofnelmojnaa.Pure
