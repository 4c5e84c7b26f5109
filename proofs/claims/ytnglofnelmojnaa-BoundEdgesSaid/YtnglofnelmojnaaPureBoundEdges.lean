/- The ends of a range of members are parsed and written as the document says: the pure part. Conditions: each theorem names its own. -/
import Derived.Test.YtnglofnelmojnaaPureBound
import Derived.Test.YtnglofnelmojnaaPx12
import Derived.SizedLaws
namespace Go.Proofs.Ytnglofnelmojnaa.Pure
open Go.RowKit Go.Proofs.YtnglofnelmojnaaW.PrintWords Go.Proofs.YtnglofnelmojnaaW.PrintLast Go.Proofs.YtnglofnelmojnaaW.PrintMore Go.Proofs.Ytnglofnelmojnaa.P

/-- A text that stands in a struct that is handed is no longer than the reach. -/
theorem sized_field {H : Type} {P : Program} {ts : List TypeId} {ds : List (DataW H)} (h : (DataW.weightsEach P ts ds).all (· ≤ reachBytes) = true) {j i : Nat} {t u : TypeId} {fs : Array Field} {parts : List (DataW H)} {bytes : List UInt8}
    (ht : ts[j]? = some t) (hd : ds[j]? = some (.agg parts)) (hu : P.underlying t = some (.struct fs)) (hf : (fs.toList.map (·.type))[i]? = some u) (hp : parts[i]? = some (.lit (.string bytes))) : bytes.length ≤ reachBytes := by
  have m1 : bytes.length ∈ DataW.weightsEach P (fs.toList.map (·.type)) parts := DataW.weights_mem_each hf hp _ (by simp [DataW.weights])
  have := List.all_eq_true.1 h _ (DataW.weights_mem_each ht hd bytes.length (by simp only [DataW.weights, hu]; exact m1))
  simpa using this
theorem cut_some (a : ByteArray) (h : a.size ≤ 140737488351232) : ∃ c, paliolaw09_cut.f a = some c ∧ c.size ≤ 140737488351232 := by
  unfold paliolaw09_cut.f
  rw [if_pos (by unfold mn; split <;> omega), if_pos (by unfold mn; split <;> omega)]
  exact ⟨_, rfl, by rw [ByteArray.size_extract]; omega⟩
theorem parse_edge (c : ByteArray) (hc : c.size ≤ 140737488351232) : ∃ r, bound_ParseEdge.f c = some r ∧ palioref09_ParseEdge.f c = some r := by
  unfold bound_ParseEdge.f palioref09_ParseEdge.f
  by_cases h1 : c.toList = ([45] : List UInt8)
  · rw [if_pos h1, if_pos h1]; exact ⟨_, rfl, rfl⟩
  by_cases h2 : c.toList = ([43] : List UInt8)
  · rw [if_neg h1, if_neg h1, if_pos h2, if_pos h2]; exact ⟨_, rfl, rfl⟩
  rw [if_neg h1, if_neg h1, if_neg h2, if_neg h2]
  unfold bound_split.f
  rw [if_pos ⟨by omega, by decide, by decide⟩]
  simp only [Option.bind_some]
  by_cases h3 : c.size = 0
  · have e : (if 0 < c.size ∧ bt c 0 ∈ ([91, 40] : List Int) then (bt c 0, c.extract 1 c.size) else (0, c)) = (0, c) := if_neg (fun h => by have := h.1; omega)
    rw [e]
    simp [h3]
  by_cases h4 : bt c 0 = 91
  · have e : (if 0 < c.size ∧ bt c 0 ∈ ([91, 40] : List Int) then (bt c 0, c.extract 1 c.size) else (0, c)) = (91, c.extract 1 c.size) := by rw [if_pos ⟨by omega, by rw [h4]; decide⟩, h4]
    rw [e, if_neg (show ¬ (91 : Int) = 0 by decide), if_neg (show ¬ (c.size : Int) = 0 by omega), if_pos (show (0 : Int) < (c.size : Int) by omega), if_pos h4, if_pos (by omega), h4]
    exact ⟨_, rfl, rfl⟩
  by_cases h5 : bt c 0 = 40
  · have e : (if 0 < c.size ∧ bt c 0 ∈ ([91, 40] : List Int) then (bt c 0, c.extract 1 c.size) else (0, c)) = (40, c.extract 1 c.size) := by rw [if_pos ⟨by omega, by rw [h5]; decide⟩, h5]
    rw [e, if_neg (show ¬ (40 : Int) = 0 by decide), if_neg (show ¬ (c.size : Int) = 0 by omega), if_pos (show (0 : Int) < (c.size : Int) by omega), if_neg h4, if_pos h5, if_pos (by omega), h5]
    exact ⟨_, rfl, rfl⟩
  have e : (if 0 < c.size ∧ bt c 0 ∈ ([91, 40] : List Int) then (bt c 0, c.extract 1 c.size) else (0, c)) = (0, c) := if_neg (fun h => by have := h.2; simp [h4, h5] at this)
  rw [e, if_pos rfl, if_neg (show ¬ (c.size : Int) = 0 by omega), if_pos (show (0 : Int) < (c.size : Int) by omega), if_neg h4, if_neg h5]
  exact ⟨_, rfl, rfl⟩
theorem format_some (s : ByteArray) (o : Bool) (i : Int) (h : s.size ≤ 140737488351232) : ∃ r, bound_FormatEdge.f s o i = some r ∧ palioref09_FormatEdge.f s o i = some r := by
  have e : palioref09_FormatEdge.f s o i = bound_FormatEdge.f s o i := rfl
  rw [e]
  refine (fun ⟨r, hr⟩ => ⟨r, hr, hr⟩ : (∃ r, bound_FormatEdge.f s o i = some r) → _) ?_
  unfold bound_FormatEdge.f
  by_cases h1 : (s.toList == ([] : List UInt8) && (!o && (i == (-1)))) = true
  · rw [if_pos h1]; exact ⟨_, rfl⟩
  rw [if_neg h1]
  by_cases h2 : (s.toList == ([] : List UInt8) && (!o && (i == 1))) = true
  · rw [if_pos h2]; exact ⟨_, rfl⟩
  rw [if_neg h2]
  by_cases h3 : i = 0
  · rw [if_pos h3]
    cases o
    · rw [if_neg (by decide), if_pos (by omega)]; exact ⟨_, rfl⟩
    · rw [if_pos rfl, if_pos (by omega)]; exact ⟨_, rfl⟩
  · rw [if_neg h3]; exact ⟨_, rfl⟩
theorem BoundEdges : ∀ (a0 : ByteArray) (a1_0 : ByteArray) (a1_1 : Bool) (a1_2 : Int), a0.size ≤ 140737488351232 → a1_0.size ≤ 140737488351232 → (Lit.int .i64 a1_2).wf = true → paliolaw09_BoundEdges.f a0 a1_0 a1_1 a1_2 = some true := by
  intro a s o i ha hs _
  obtain ⟨c, hc, hcs⟩ := cut_some a ha
  obtain ⟨r, h1, h2⟩ := parse_edge c hcs
  obtain ⟨q, g1, g2⟩ := format_some s o i hs
  unfold paliolaw09_BoundEdges.f
  rw [shown_true, hc]
  simp only [Option.bind_some, h1, h2, g1, g2, if_true, beq_self_eq_true, Bool.and_self]
end Go.Proofs.Ytnglofnelmojnaa.Pure
