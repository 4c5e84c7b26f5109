/- So many question marks match just what has as many characters: a call of the law answers true. Conditions: that the text is no longer than any machine's. -/
import Derived.Test.YtmejbponpkkobaaPH12
namespace Go.Proofs.Ytmejbponpkkobaa.Pure
open Go.Proofs.Ytmejbponpkkobaa.P

theorem GlobAny : ∀ (a0 : Int) (a1 : ByteArray), (Lit.int .i64 a0).wf = true → a1.size ≤ 140737488351232 → paliolaw02_GlobAny.f a0 a1 = some true := by
  intro _ _ _ h
  unfold paliolaw02_GlobAny.f
  rw [if_pos h]
end Go.Proofs.Ytmejbponpkkobaa.Pure
