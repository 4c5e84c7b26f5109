/- What is in a range of members is what the document says: the pure part. Conditions: none. -/
import Derived.Test.YtnglofnelmojnaaPureBoundE
namespace Go.Proofs.Ytnglofnelmojnaa.Pure
open Go.RowKit Go.Proofs.YtnglofnelmojnaaW.PrintWords Go.Proofs.YtnglofnelmojnaaW.PrintLast Go.Proofs.YtnglofnelmojnaaW.PrintMore Go.Proofs.Ytnglofnelmojnaa.P

theorem BoundMembers : ∀ (a0 : ByteArray) (a1_0 : ByteArray) (a1_1 : Bool) (a1_2 : Int) (a2_0 : ByteArray) (a2_1 : Bool) (a2_2 : Int), a0.size ≤ 140737488351232 → a1_0.size ≤ maxLen → (Lit.int .i64 a1_2).wf = true → a2_0.size ≤ maxLen → (Lit.int .i64 a2_2).wf = true → ∃ k, paliolaw09_BoundMembers.f k a0 a1_0 a1_1 a1_2 a2_0 a2_1 a2_2 = some true := by
  intro s F O I T U J hs hF _ _ _
  unfold maxLen at hF
  refine ⟨2 * s.size + 2 * F.size + 10, ?_⟩
  unfold paliolaw09_BoundMembers.f
  rw [shown_true]
  simp only [Option.bind_some, edge_own, if_true]
  rw [edge_ref s F T O U I J (by omega) (by omega) _ (by omega) (by omega)]
  simp
end Go.Proofs.Ytnglofnelmojnaa.Pure
