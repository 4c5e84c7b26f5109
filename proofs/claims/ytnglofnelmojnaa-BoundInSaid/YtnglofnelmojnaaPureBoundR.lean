/- One number in a range: the document's function. Conditions: each theorem names its own. -/
import Derived.Test.YtnglofnelmojnaaPureBound
import Derived.Test.YtnglofnelmojnaaPx9
namespace Go.Proofs.Ytnglofnelmojnaa.Pure
open Go.RowKit Go.Proofs.YtnglofnelmojnaaW.PrintWords Go.Proofs.YtnglofnelmojnaaW.PrintLast Go.Proofs.YtnglofnelmojnaaW.PrintMore Go.Proofs.Ytnglofnelmojnaa.P

theorem in_ref (n N M I J : Int) (O U : Bool) : palioref09_In.f n N O I M U J = some (lowB (decide (n < N)) (decide (N < n)) I O && highB (decide (n < M)) (decide (M < n)) J U) := by
  have hI : I < 0 ∨ I = 0 ∨ 0 < I := by omega
  have hJ : J < 0 ∨ J = 0 ∨ 0 < J := by omega
  have hN : n < N ∨ n = N ∨ N < n := by omega
  have hM : n < M ∨ n = M ∨ M < n := by omega
  unfold palioref09_In.f lowB highB
  rcases hI with hI | rfl | hI
  · have e1 : ¬ I = 0 := by omega
    rcases hJ with hJ | rfl | hJ
    · simp [hI, e1, show ¬ J = 0 by omega, show ¬ 0 < J by omega]
    · rcases hM with h | rfl | h
      · simp [hI, e1, h]
      · cases U <;> simp [hI, e1]
      · simp [hI, e1, h, show ¬ n < M by omega, show ¬ n = M by omega]
    · simp [hI, e1, hJ, show ¬ J = 0 by omega]
  · rcases hN with h1 | rfl | h1
    · rcases hJ with hJ | rfl | hJ
      · simp [h1, show ¬ N < n by omega, show ¬ n = N by omega, show ¬ J = 0 by omega, show ¬ 0 < J by omega]
      · rcases hM with h | rfl | h
        · simp [h1, show ¬ N < n by omega, show ¬ n = N by omega, h]
        · cases U <;> simp [h1, show ¬ N < n by omega, show ¬ n = N by omega]
        · simp [h1, show ¬ N < n by omega, show ¬ n = N by omega, h, show ¬ n < M by omega, show ¬ n = M by omega]
      · simp [h1, show ¬ N < n by omega, show ¬ n = N by omega, hJ, show ¬ J = 0 by omega]
    · rcases hJ with hJ | rfl | hJ
      · cases O <;> simp [show ¬ J = 0 by omega, show ¬ 0 < J by omega]
      · rcases hM with h | rfl | h
        · cases O <;> simp [h]
        · cases O <;> cases U <;> simp
        · cases O <;> simp [h, show ¬ n < M by omega, show ¬ n = M by omega]
      · cases O <;> simp [hJ, show ¬ J = 0 by omega]
    · rcases hJ with hJ | rfl | hJ
      · simp [h1, show ¬ J = 0 by omega, show ¬ 0 < J by omega]
      · rcases hM with h | rfl | h
        · simp [h1, h]
        · cases U <;> simp [h1]
        · simp [h1, h, show ¬ n < M by omega, show ¬ n = M by omega]
      · simp [h1, hJ, show ¬ J = 0 by omega]
  · have e1 : ¬ I = 0 := by omega
    have e2 : ¬ I < 0 := by omega
    rcases hJ with hJ | rfl | hJ
    · simp [e1, e2, show ¬ J = 0 by omega, show ¬ 0 < J by omega]
    · rcases hM with h | rfl | h
      · simp [e1, e2, h]
      · simp [e1, e2]
      · simp [e1, e2, h, show ¬ n < M by omega, show ¬ n = M by omega]
    · simp [e1, e2, hJ, show ¬ J = 0 by omega]
end Go.Proofs.Ytnglofnelmojnaa.Pure
