/- What is quoted matches itself, and nothing that has other characters: a call of the law answers true. Conditions: that the texts are no longer than any machine's. -/
import Derived.Test.YtmejbponpkkobaaPH13
namespace Go.Proofs.Ytmejbponpkkobaa.Pure
open Go.Proofs.Ytmejbponpkkobaa.P

theorem GlobQuotes : ∀ (a0 : ByteArray) (a1 : ByteArray), a0.size ≤ 140737488351232 → a1.size ≤ 140737488351232 → paliolaw02_GlobQuotes.f a0 a1 = some true := by
  intro _ _ h1 h2
  unfold paliolaw02_GlobQuotes.f
  rw [if_pos ⟨h1, h2⟩]
end Go.Proofs.Ytmejbponpkkobaa.Pure
