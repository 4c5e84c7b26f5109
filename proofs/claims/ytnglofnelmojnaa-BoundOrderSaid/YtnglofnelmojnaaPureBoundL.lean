/- Which of two entries stands ahead: the program's function and the document's. Conditions: each theorem names its own. -/
import Derived.Test.YtnglofnelmojnaaPureBound
import Derived.Test.YtnglofnelmojnaaPx9
import Derived.Test.YtnglofnelmojnaaPx10
namespace Go.Proofs.Ytnglofnelmojnaa.Pure
open Go.RowKit Go.Proofs.YtnglofnelmojnaaW.PrintWords Go.Proofs.YtnglofnelmojnaaW.PrintLast Go.Proofs.YtnglofnelmojnaaW.PrintMore Go.Proofs.Ytnglofnelmojnaa.P

/-- Of two entries the one stands ahead. -/
def ahead (m1 : ByteArray) (s1 : Int) (m2 : ByteArray) (s2 : Int) : Bool := decide (s1 < s2) || (decide (s1 = s2) && Op.bytesLess m1.toList m2.toList)
theorem or_own (x y : Int) (k : Nat) (hk : 4 < k) : cmp_Or_int.f k [x, y] = some (if x = 0 then y else x) := by
  obtain ⟨k, rfl⟩ : ∃ m, k = m + 4 := ⟨k - 4, by omega⟩
  have w1 : wrap64 (0 + 1) = 1 := by decide +kernel
  have w2 : wrap64 (1 + 1) = 2 := by decide +kernel
  have r0 : rd [x, y] 0 = x := rfl
  have r1 : rd [x, y] 1 = y := rfl
  have hl : (([x, y] : List Int).length : Int) = 2 := rfl
  unfold cmp_Or_int.f
  rw [cmp_Or_int.l0, hl, if_pos (by decide), if_pos (by decide), if_pos (by decide), r0]
  by_cases h : x = 0
  · rw [if_pos h, if_pos h, w1, cmp_Or_int.l0, hl, if_pos (by decide), if_pos (by decide), if_pos (by decide), r1]
    by_cases h2 : y = 0
    · rw [if_pos h2, w2, cmp_Or_int.l0, if_neg (by decide), h2]
    · rw [if_neg h2]
  · rw [if_neg h, if_neg h]
theorem ahead_own (m1 : ByteArray) (s1 : Int) (m2 : ByteArray) (s2 : Int) (k : Nat) (hk : 4 < k) : bound_Less.f k m1 s1 m2 s2 = some (ahead m1 s1 m2 s2) := by
  unfold bound_Less.f ahead
  rw [cmp_own]
  simp only [cmp_Compare_int64.f, cmp_isNaN_int64.f, bne_self_eq_false, Bool.false_eq_true, if_false, Option.bind_some]
  have hs : s1 < s2 ∨ s1 = s2 ∨ s2 < s1 := by omega
  rcases hs with h | rfl | h
  · rw [if_pos h]
    simp only [Option.bind_some]
    rw [or_own _ _ k hk]
    simp [h]
  · rw [if_neg (Int.lt_irrefl _), if_neg (Int.lt_irrefl _)]
    simp only [Option.bind_some]
    rw [or_own _ _ k hk]
    rcases three m1 m2 with ⟨h1, h2, h3⟩ | ⟨h1, h2, h3⟩ | ⟨h1, h2, h3⟩
    · simp [h1]
    · simp [h2, h3]
    · simp [h1, h2]
  · rw [if_neg (by omega), if_pos h]
    simp only [Option.bind_some]
    rw [or_own _ _ k hk]
    simp [show ¬ s1 < s2 by omega, show ¬ s1 = s2 by omega]
theorem ahead_ref (m1 : ByteArray) (s1 : Int) (m2 : ByteArray) (s2 : Int) (hm : m1.size ≤ 9223372036854775807) (k : Nat) (hk : 2 * m1.size + 1 < k) : palioref09_Less.f k m1 s1 m2 s2 = some (ahead m1 s1 m2 s2) := by
  unfold palioref09_Less.f ahead
  rw [less_ref m1 m2 hm k hk]
  by_cases h : s1 < s2
  · simp [h]
  · by_cases h2 : s1 = s2
    · simp [h2]
    · simp [h, h2]
end Go.Proofs.Ytnglofnelmojnaa.Pure
