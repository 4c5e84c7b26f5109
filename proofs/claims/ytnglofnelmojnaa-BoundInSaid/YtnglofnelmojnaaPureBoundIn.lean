/- What is in a range of scores, and what stands ahead, is what the document says: the pure part. Conditions: none. -/
import Derived.Test.YtnglofnelmojnaaPureBoundR
import Derived.Test.YtnglofnelmojnaaPureBoundL
import Derived.Test.YtnglofnelmojnaaPx11
namespace Go.Proofs.Ytnglofnelmojnaa.Pure
open Go.RowKit Go.Proofs.YtnglofnelmojnaaW.PrintWords Go.Proofs.YtnglofnelmojnaaW.PrintLast Go.Proofs.YtnglofnelmojnaaW.PrintMore Go.Proofs.Ytnglofnelmojnaa.P

theorem BoundIn : ∀ (a0 : Int) (a1_0 : Int) (a1_1 : Bool) (a1_2 : Int) (a2_0 : Int) (a2_1 : Bool) (a2_2 : Int) (a3_0 : ByteArray) (a3_1 : Int) (a4_0 : ByteArray) (a4_1 : Int), (Lit.int .i64 a0).wf = true → (Lit.int .i64 a1_0).wf = true → (Lit.int .i64 a1_2).wf = true → (Lit.int .i64 a2_0).wf = true → (Lit.int .i64 a2_2).wf = true → a3_0.size ≤ maxLen → (Lit.int .i64 a3_1).wf = true → a4_0.size ≤ maxLen → (Lit.int .i64 a4_1).wf = true → ∃ k, paliolaw09_BoundIn.f k a0 a1_0 a1_1 a1_2 a2_0 a2_1 a2_2 a3_0 a3_1 a4_0 a4_1 = some true := by
  intro n N O I M U J m1 s1 m2 s2 _ _ _ _ _ hm _ _ _
  unfold maxLen at hm
  refine ⟨2 * m1.size + 10, ?_⟩
  unfold paliolaw09_BoundIn.f
  rw [shown_true]
  simp only [Option.bind_some, in_own, in_ref, if_true, beq_self_eq_true]
  rw [ahead_own _ _ _ _ _ (by omega), ahead_ref m1 s1 m2 s2 (by omega) _ (by omega)]
  simp
end Go.Proofs.Ytnglofnelmojnaa.Pure
