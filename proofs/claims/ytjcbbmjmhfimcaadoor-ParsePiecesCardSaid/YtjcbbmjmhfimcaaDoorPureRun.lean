/- All the requests of bytes, whatever the fuel, whatever comes behind, in plain Lean. Conditions: each theorem names its own. -/
import Derived.Test.YtjcbbmjmhfimcaaDoorPurePieces
namespace Go.Proofs.YtjcbbmjmhfimcaaDoor.P
open Go.RowKit Go.Lib Go.Proofs.YtjcbbmjmhfimcaaDoorW.PrintWords Go.Proofs.YtjcbbmjmhfimcaaDoorW.PrintLast Go.Proofs.YtjcbbmjmhfimcaaDoorW.PrintMore

theorem headB_less (s : ByteArray) (lo hi : Int) (h : (headB s lo hi).2.1 = 0) : (headB s lo hi).2.2.size < s.size := by
  rcases indexB_cases s crlf with hm | ⟨i, hi1, hi2⟩
  · unfold headB at h
    rw [if_pos hm] at h
    simp only at h
    split at h <;> cases h
  · have hc : crlf.size = 2 := rfl
    unfold headB at h ⊢
    rw [if_neg (by omega)] at h ⊢
    split at h
    · cases h
    · rename_i h2
      rw [if_neg h2, hi1]
      simp only [ByteArray.size_extract]
      omega
theorem splitB_less (s : ByteArray) (h : (splitB s).2.1 = 0) : (splitB s).2.2.size < s.size := by
  by_cases h0 : s.size = 0
  · unfold splitB at h
    rw [if_pos h0] at h
    cases h
  · have hb : (bulksB s).2.1 = 0 → (bulksB s).2.2.size < s.size := by
      have hl := headB_less s (-9223372036854775808) 64
      intro h
      unfold bulksB at h ⊢
      split at h
      · rename_i h1
        exact absurd h h1
      · rename_i h1
        rw [if_neg h1]
        have h1 : (headB s (-9223372036854775808) 64).2.1 = 0 := by simpa using h1
        split at h
        · rename_i h2
          exact absurd h h2
        · rename_i h2
          rw [if_neg h2]
          exact Nat.lt_of_le_of_lt (restB_size _ _) (hl h1)
    have hi : (inlineB s).2.1 = 0 → (inlineB s).2.2.size < s.size := by
      intro h
      rcases indexB_cases s lf with hm | ⟨i, hi1, hi2⟩
      · unfold inlineB at h
        rw [if_pos hm] at h
        simp only at h
        split at h <;> cases h
      · have hc : lf.size = 1 := rfl
        unfold inlineB at h ⊢
        rw [if_neg (by omega)] at h ⊢
        split at h
        · cases h
        · rename_i h2
          rw [if_neg h2, hi1]
          simp only [ByteArray.size_extract]
          omega
    rcases splitB_cases s with e | ⟨q, hq, e⟩
    · rw [e] at h
      cases h
    · rw [e] at h ⊢
      by_cases hz : q.2.1 = 0
      · rw [if_neg (fun k => k hz)] at h ⊢
        rcases hq with rfl | rfl
        · exact hb h
        · exact hi h
      · rw [if_pos hz] at h
        exact absurd h hz
theorem splitB_rest (s : ByteArray) (h : (splitB s).2.1 ≠ 0) : (splitB s).2.2 = s ∧ (splitB s).1 = [] := by
  rcases splitB_cases s with e | ⟨q, _, e⟩
  · rw [e]; exact ⟨rfl, rfl⟩
  · rw [e] at h ⊢
    split at h
    · rename_i h1
      rw [if_pos h1]
      exact ⟨rfl, rfl⟩
    · rename_i h1
      exact absurd (by simpa using h1) h
theorem nextB_false (s : ByteArray) : nextB s false = ((splitB s).1, (splitB s).2.1, (splitB s).2.2, (splitB s).2.1 == 40) := rfl
theorem allB_false (f : Nat) (s : ByteArray) (out : List ByteArray) : allB (f + 1) s false out = if (splitB s).2.1 ≠ 0 then (out, (splitB s).2.1, (splitB s).2.2, (splitB s).2.1 == 40) else allB f (splitB s).2.2 false (out ++ [nextW] ++ (splitB s).1) := by
  rw [allB, nextB_false]
  split
  · rfl
  · rename_i h
    have h : (splitB s).2.1 = 0 := by simpa using h
    rw [h]
    rfl
theorem allB_fuel : ∀ (f g : Nat) (s : ByteArray) (out : List ByteArray), s.size < f → s.size < g → allB f s false out = allB g s false out
  | 0, _, _, _, h, _ => absurd h (by omega)
  | _ + 1, 0, _, _, _, h => absurd h (by omega)
  | f + 1, g + 1, s, out, hf, hg => by
    rw [allB_false, allB_false]
    by_cases h : (splitB s).2.1 = 0
    · rw [if_neg (by simp [h]), if_neg (by simp [h])]
      have := splitB_less s h
      exact allB_fuel f g _ _ (by omega) (by omega)
    · rw [if_pos h, if_pos h]
theorem allB_wrong (f : Nat) (s : ByteArray) (out : List ByteArray) : allB (f + 1) s true out = (out, 40, s, true) := by
  rw [allB]
  rfl
/-- What all tells of bytes with more behind. -/
theorem allB_app : ∀ (f : Nat) (s t : ByteArray) (out : List ByteArray), s.size + t.size < f →
    ((allB f s false out).2.1 = 31 → allB f (s ++ t) false out = allB f ((allB f s false out).2.2.1 ++ t) false (allB f s false out).1 ∧ (allB f s false out).2.2.2 = false ∧ (allB f s false out).2.2.1.size ≤ s.size) ∧
    ((allB f s false out).2.1 = 40 → (allB f (s ++ t) false out).1 = (allB f s false out).1 ∧ (allB f (s ++ t) false out).2.1 = 40 ∧ (allB f s false out).2.2.2 = true) ∧
    ((allB f s false out).2.1 = 31 ∨ (allB f s false out).2.1 = 40)
  | 0, _, _, _, h => absurd h (by omega)
  | f + 1, s, t, out, hf => by
    obtain ⟨k1, k2, k3⟩ := split_app s t
    rw [allB_false f s out]
    by_cases h : (splitB s).2.1 = 0
    · rw [if_neg (by simp [h])]
      have hless := splitB_less s h
      obtain ⟨i1, i2, i3⟩ := allB_app f (splitB s).2.2 t (out ++ [nextW] ++ (splitB s).1) (by omega)
      have hst := k1 h
      have hall : allB (f + 1) (s ++ t) false out = allB f ((splitB s).2.2 ++ t) false (out ++ [nextW] ++ (splitB s).1) := by
        rw [allB_false, hst]
        simp
      refine ⟨fun e => ?_, fun e => ?_, i3⟩
      · obtain ⟨j1, j2, j3⟩ := i1 e
        rw [hall]
        refine ⟨?_, j2, by omega⟩
        rw [j1]
        exact allB_fuel _ _ _ _ (by rw [ByteArray.size_append]; omega) (by rw [ByteArray.size_append]; omega)
      · rw [hall]
        exact i2 e
    · rw [if_pos h]
      obtain ⟨hr, hl⟩ := splitB_rest s h
      refine ⟨fun e => ?_, fun e => ?_, ?_⟩
      · simp only at e ⊢
        rw [hr]
        exact ⟨rfl, by rw [e]; rfl, Nat.le_refl _⟩
      · simp only at e ⊢
        have h4 := k2 e
        rw [allB_false, if_pos (by rw [h4]; decide), h4, e]
        exact ⟨rfl, rfl, rfl⟩
      · simp only
        rcases k3 with e | e | e
        · exact absurd e h
        · exact .inl e
        · exact .inr e
theorem allB_out : ∀ (f : Nat) (s : ByteArray) (out : List ByteArray), allB f s false out = (out ++ (allB f s false []).1, (allB f s false []).2)
  | 0, _, out => by simp [allB]
  | f + 1, s, out => by
    rw [allB_false, allB_false f s []]
    by_cases h : (splitB s).2.1 = 0
    · rw [if_neg (by simp [h]), if_neg (by simp [h]), allB_out f _ (out ++ [nextW] ++ (splitB s).1), allB_out f _ ([] ++ [nextW] ++ (splitB s).1)]
      simp
    · rw [if_pos h, if_pos h]
      simp
theorem allB_len : ∀ (f : Nat) (s : ByteArray) (b : Bool) (out : List ByteArray), (allB f s b out).1.length ≤ out.length + 65 * f
  | 0, _, _, out => by simp [allB]
  | f + 1, s, b, out => by
    rw [allB]
    split
    · simp only; omega
    · refine Nat.le_trans (allB_len f _ _ _) ?_
      have := nextB_len s b
      simp only [List.length_append, List.length_singleton]
      omega
theorem allB_rest : ∀ (f : Nat) (s : ByteArray) (out : List ByteArray), (allB f s false out).2.2.1.size ≤ s.size
  | 0, _, _ => Nat.le_refl _
  | f + 1, s, out => by
    rw [allB_false]
    split
    · exact splitB_size s
    · exact Nat.le_trans (allB_rest f _ _) (splitB_size s)
/-- What stays true while the pieces come: 'r' is what is kept, 'rest' has not come yet. -/
structure Pcs (s : ByteArray) (r rest : ByteArray) (b : Bool) (got : List ByteArray) (g : Int) : Prop where
  ok : b = false → g = 31 ∧ allB 4000 s false [] = allB 4000 (r ++ rest) false got ∧ r.size + rest.size ≤ 3000
  bad : b = true → g = 40 ∧ (allB 4000 s false []).1 = got ∧ (allB 4000 s false []).2.1 = 40 ∧ r.size ≤ 3000
theorem Pcs.start (s : ByteArray) (h : s.size ≤ 3000) : Pcs s ⟨#[]⟩ s false [] 31 :=
  ⟨fun _ => ⟨rfl, by rw [show (⟨#[]⟩ : ByteArray) ++ s = s from ByteArray.empty_append], by have : (⟨#[]⟩ : ByteArray).size = 0 := rfl; omega⟩, fun h => (by cases h)⟩
/-- A piece comes where nothing is wrong. -/
theorem Pcs.step {s r a c : ByteArray} {got : List ByteArray} {g : Int} (h : Pcs s r (a ++ c) false got g) :
    Pcs s (allB 4000 (r ++ a) false []).2.2.1 c (allB 4000 (r ++ a) false []).2.2.2 (got ++ (allB 4000 (r ++ a) false []).1) (allB 4000 (r ++ a) false []).2.1 := by
  obtain ⟨_, h2, h3⟩ := h.ok rfl
  rw [ByteArray.size_append] at h3
  obtain ⟨k1, k2, k3⟩ := allB_app 4000 (r ++ a) c got (by rw [ByteArray.size_append]; omega)
  rw [allB_out 4000 (r ++ a) got] at k1 k2 k3
  simp only at k1 k2 k3
  rw [← ByteArray.append_assoc] at h2
  have hsz : (allB 4000 (r ++ a) false []).2.2.1.size ≤ r.size + a.size := by
    have := allB_rest 4000 (r ++ a) []
    rw [ByteArray.size_append] at this
    exact this
  rcases k3 with e | e
  · obtain ⟨j1, j2, j3⟩ := k1 e
    refine ⟨fun _ => ⟨e, by rw [h2, j1], by omega⟩, fun hb => ?_⟩
    rw [j2] at hb
    cases hb
  · obtain ⟨j1, j2, j3⟩ := k2 e
    refine ⟨fun hb => ?_, fun _ => ⟨e, by rw [h2]; exact j1, by rw [h2]; exact j2, by omega⟩⟩
    rw [j3] at hb
    cases hb
end Go.Proofs.YtjcbbmjmhfimcaaDoor.P
