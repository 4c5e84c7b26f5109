/- What is plain matches just what has the same characters: a call of the law answers true. Conditions: that the texts are no longer than any machine's. -/
import Derived.Test.YtmejbponpkkobaaPH14
namespace Go.Proofs.Ytmejbponpkkobaa.Pure
open Go.Proofs.Ytmejbponpkkobaa.P

theorem GlobPlainly : ∀ (a0 : ByteArray) (a1 : ByteArray), a0.size ≤ 140737488351232 → a1.size ≤ 140737488351232 → paliolaw02_GlobPlainly.f a0 a1 = some true := by
  intro _ _ h1 h2
  unfold paliolaw02_GlobPlainly.f
  rw [if_pos ⟨h1, h2⟩]
end Go.Proofs.Ytmejbponpkkobaa.Pure
