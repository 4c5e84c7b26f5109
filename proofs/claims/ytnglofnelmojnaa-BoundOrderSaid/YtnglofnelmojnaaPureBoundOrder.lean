/- Of two entries one stands ahead, or they are the same; what is ahead of one that is ahead is ahead: the pure part. Conditions: none. -/
import Derived.Test.YtnglofnelmojnaaPureBoundL
import Derived.Test.YtnglofnelmojnaaPx11
namespace Go.Proofs.Ytnglofnelmojnaa.Pure
open Go.RowKit Go.Proofs.YtnglofnelmojnaaW.PrintWords Go.Proofs.YtnglofnelmojnaaW.PrintLast Go.Proofs.YtnglofnelmojnaaW.PrintMore Go.Proofs.Ytnglofnelmojnaa.P

theorem ahead_trans (m1 m2 m3 : ByteArray) (s1 s2 s3 : Int) (h : ahead m1 s1 m2 s2 = true) (h2 : ahead m2 s2 m3 s3 = true) : ahead m1 s1 m3 s3 = true := by
  simp only [ahead, Bool.or_eq_true, Bool.and_eq_true, decide_eq_true_eq] at *
  rcases h with h | ⟨h, g⟩ <;> rcases h2 with h2 | ⟨h2, g2⟩
  · exact .inl (by omega)
  · exact .inl (by omega)
  · exact .inl (by omega)
  · exact .inr ⟨by omega, bl_trans _ _ _ g g2⟩
theorem BoundOrder : ∀ (a0_0 : ByteArray) (a0_1 : Int) (a1_0 : ByteArray) (a1_1 : Int) (a2_0 : ByteArray) (a2_1 : Int), a0_0.size ≤ maxLen → (Lit.int .i64 a0_1).wf = true → a1_0.size ≤ maxLen → (Lit.int .i64 a1_1).wf = true → a2_0.size ≤ maxLen → (Lit.int .i64 a2_1).wf = true → ∃ k, paliolaw09_BoundOrder.f k a0_0 a0_1 a1_0 a1_1 a2_0 a2_1 = some true := by
  intro m1 s1 m2 s2 m3 s3 _ _ _ _ _ _
  refine ⟨10, ?_⟩
  unfold paliolaw09_BoundOrder.f
  rw [shown_true]
  simp only [Option.bind_some, ahead_own _ _ _ _ 10 (by decide), if_true]
  have tri : (ahead m1 s1 m2 s2 = true ∧ ahead m2 s2 m1 s1 = false ∧ (!(m1.toList == m2.toList) || !(s1 == s2)) = true) ∨ (ahead m1 s1 m2 s2 = false ∧ ahead m2 s2 m1 s1 = false ∧ (!(m1.toList == m2.toList) || !(s1 == s2)) = false) ∨ (ahead m1 s1 m2 s2 = false ∧ ahead m2 s2 m1 s1 = true ∧ (!(m1.toList == m2.toList) || !(s1 == s2)) = true) := by
    have hs : s1 < s2 ∨ s1 = s2 ∨ s2 < s1 := by omega
    rcases hs with h | rfl | h
    · left; simp [ahead, h, show ¬ s2 < s1 by omega, show ¬ s1 = s2 by omega, show ¬ s2 = s1 by omega]
    · rcases three m1 m2 with ⟨h1, h2, h3⟩ | ⟨h1, h2, h3⟩ | ⟨h1, h2, h3⟩
      · left; simp [ahead, h1, h2, h3]
      · right; left; simp [ahead, h1, bl_irrefl]
      · right; right; simp [ahead, h1, h2, h3]
    · right; right; simp [ahead, h, show ¬ s1 < s2 by omega, show ¬ s1 = s2 by omega, show ¬ s2 = s1 by omega]
  rcases tri with ⟨h1, h2, h3⟩ | ⟨h1, h2, h3⟩ | ⟨h1, h2, h3⟩
  · rw [h1, h2, h3]
    cases h4 : ahead m2 s2 m3 s3 with
    | true => simp [ahead_trans m1 m2 m3 s1 s2 s3 h1 h4]
    | false => simp
  · rw [h1, h2, h3]; simp
  · rw [h1, h2, h3]; simp
end Go.Proofs.Ytnglofnelmojnaa.Pure
