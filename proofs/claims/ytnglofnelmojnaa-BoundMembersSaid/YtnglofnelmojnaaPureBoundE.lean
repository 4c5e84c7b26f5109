/- One member in a range: the program's function and the document's. Conditions: each theorem names its own. -/
import Derived.Test.YtnglofnelmojnaaPureBound
import Derived.Test.YtnglofnelmojnaaPx8
namespace Go.Proofs.Ytnglofnelmojnaa.Pure
open Go.RowKit Go.Proofs.YtnglofnelmojnaaW.PrintWords Go.Proofs.YtnglofnelmojnaaW.PrintLast Go.Proofs.YtnglofnelmojnaaW.PrintMore Go.Proofs.Ytnglofnelmojnaa.P

theorem edge_own (s F T : ByteArray) (O U : Bool) (I J : Int) : bound_InEdge.f s F O I T U J = some (lowB (Op.bytesLess s.toList F.toList) (Op.bytesLess F.toList s.toList) I O && highB (Op.bytesLess s.toList T.toList) (Op.bytesLess T.toList s.toList) J U) := by
  have key : ∀ y : ByteArray, (decide ((if Op.bytesLess s.toList y.toList = true then (-1 : Int) else if Op.bytesLess y.toList s.toList = true then 1 else 0) = -1)) = Op.bytesLess s.toList y.toList ∧ (decide ((if Op.bytesLess s.toList y.toList = true then (-1 : Int) else if Op.bytesLess y.toList s.toList = true then 1 else 0) = 1)) = Op.bytesLess y.toList s.toList := fun y => by
    rcases three s y with ⟨h1, h2, h3⟩ | ⟨h1, h2, h3⟩ | ⟨h1, h2, h3⟩
    · simp [h1, h2]
    · simp [h2, h3]
    · simp [h1, h2]
  simp only [bound_InEdge.f, bound_of.f, bound_isBehind_string.f, cmp_own, Option.bind_some, if_true, (key F).1, (key F).2, (key T).1, (key T).2]
  cases lowB (Op.bytesLess s.toList F.toList) (Op.bytesLess F.toList s.toList) I O <;> simp
theorem sign (x : Int) : ((x < 0) = True ∧ (x = 0) = False ∧ (0 < x) = False) ∨ ((x < 0) = False ∧ (x = 0) = True ∧ (0 < x) = False) ∨ ((x < 0) = False ∧ (x = 0) = False ∧ (0 < x) = True) := by
  have h : x < 0 ∨ x = 0 ∨ 0 < x := by omega
  rcases h with h | h | h
  · exact .inl ⟨eq_true h, eq_false (by omega), eq_false (by omega)⟩
  · exact .inr (.inl ⟨eq_false (by omega), eq_true h, eq_false (by omega)⟩)
  · exact .inr (.inr ⟨eq_false (by omega), eq_false (by omega), eq_true h⟩)
theorem threeP (x y : ByteArray) : ((x.toList = y.toList) = False ∧ Op.bytesLess x.toList y.toList = true ∧ Op.bytesLess y.toList x.toList = false) ∨ ((x.toList = y.toList) = True ∧ Op.bytesLess x.toList y.toList = false ∧ Op.bytesLess y.toList x.toList = false) ∨
    ((x.toList = y.toList) = False ∧ Op.bytesLess x.toList y.toList = false ∧ Op.bytesLess y.toList x.toList = true) := by
  rcases three x y with ⟨h1, h2, h3⟩ | ⟨h1, h2, h3⟩ | ⟨h1, h2, h3⟩
  · exact .inl ⟨eq_false h3, h1, h2⟩
  · exact .inr (.inl ⟨eq_true h1, h2, h3⟩)
  · exact .inr (.inr ⟨eq_false h3, h1, h2⟩)
theorem edge_ref (s F T : ByteArray) (O U : Bool) (I J : Int) (hs : s.size ≤ 9223372036854775807) (hF : F.size ≤ 9223372036854775807) (k : Nat) (hk : 2 * s.size + 1 < k) (hk2 : 2 * F.size + 1 < k) :
    palioref09_InEdge.f k s F O I T U J = some (lowB (Op.bytesLess s.toList F.toList) (Op.bytesLess F.toList s.toList) I O && highB (Op.bytesLess s.toList T.toList) (Op.bytesLess T.toList s.toList) J U) := by
  unfold palioref09_InEdge.f lowB highB
  rw [less_ref F s hF k hk2, less_ref s T hs k hk]
  simp only [Option.bind_some, gt_iff_lt]
  clear hk hk2 hs hF
  rcases sign I with ⟨i1, i2, i3⟩ | ⟨i1, i2, i3⟩ | ⟨i1, i2, i3⟩ <;> rcases sign J with ⟨j1, j2, j3⟩ | ⟨j1, j2, j3⟩ | ⟨j1, j2, j3⟩ <;> simp only [*, if_true, if_false]
  all_goals try (simp; done)
  all_goals first
    | (rcases threeP s F with ⟨h1, h2, h3⟩ | ⟨h1, h2, h3⟩ | ⟨h1, h2, h3⟩ <;> cases O <;> simp [h1, h2, h3]; done)
    | (rcases threeP s T with ⟨h1, h2, h3⟩ | ⟨h1, h2, h3⟩ | ⟨h1, h2, h3⟩ <;> cases U <;> simp [h1, h2, h3]; done)
    | (rcases threeP s F with ⟨h1, h2, h3⟩ | ⟨h1, h2, h3⟩ | ⟨h1, h2, h3⟩ <;> cases O <;> simp only [h1, h2, h3, if_true, if_false, Bool.false_eq_true] <;> (try rfl) <;> rcases threeP s T with ⟨g1, g2, g3⟩ | ⟨g1, g2, g3⟩ | ⟨g1, g2, g3⟩ <;> cases U <;> simp [g1, g2, g3])
end Go.Proofs.Ytnglofnelmojnaa.Pure
