/- Sums, differences, products and places are the document's: the pure part. Conditions: none. -/
import Derived.Test.YtbhgpaeaaembjaaPureArith
namespace Go.Proofs.Ytbhgpaeaaembjaa.Pure
open Go.RowKit Go.Proofs.YtbhgpaeaaembjaaW.PrintWords Go.Proofs.YtbhgpaeaaembjaaW.PrintLast Go.Proofs.YtbhgpaeaaembjaaW.PrintMore Go.Proofs.Ytbhgpaeaaembjaa.P

theorem shown_true : paliolaw01_shown.f = some true := by decide +kernel
theorem IntsSums : ∀ (a0 : Int) (a1 : Int), (Lit.int .i64 a0).wf = true → (Lit.int .i64 a1).wf = true → ∃ k, paliolaw01_IntsSums.f k a0 a1 = some true := by
  intro a b ha hb
  have h1 : fits a := wf64 ha
  have h2 : fits b := wf64 hb
  refine ⟨5, ?_⟩
  unfold paliolaw01_IntsSums.f
  rw [shown_true, add_own a b h1 h2, add_ref a b h1 h2, sub_own a b h1 h2, sub_ref a b h1 h2, mul_own a b h1 h2, mul_ref a b h1 h2, clamp_eq a b]
  simp only [Option.bind_some, if_true]
  cases h : palioref01_Clamp.f a b with
  | none => unfold palioref01_Clamp.f at h; split at h <;> cases h
  | some x => simp
end Go.Proofs.Ytbhgpaeaaembjaa.Pure
