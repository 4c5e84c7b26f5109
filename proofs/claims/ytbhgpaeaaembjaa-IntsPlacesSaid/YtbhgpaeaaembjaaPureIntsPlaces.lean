/- A place is 0 up to how many there are; from the front and from the end they are the same ones: the pure part. Conditions: none. -/
import Derived.Test.YtbhgpaeaaembjaaPureIntsSums
namespace Go.Proofs.Ytbhgpaeaaembjaa.Pure
open Go.RowKit Go.Proofs.YtbhgpaeaaembjaaW.PrintWords Go.Proofs.YtbhgpaeaaembjaaW.PrintLast Go.Proofs.YtbhgpaeaaembjaaW.PrintMore Go.Proofs.Ytbhgpaeaaembjaa.P

/-- A place. -/
def place (a n : Int) : Int := max (min (if a < 0 then a + max n 0 else a) (max n 0)) 0
theorem clamp_place (a n : Int) (h1 : fits a) (h2 : fits n) : ints_Clamp.f a n = some (place a n) := by
  unfold fits at h1 h2
  unfold ints_Clamp.f place mx mn
  have hw : a < 0 → wrap64 (a + (if n < 0 then 0 else n)) = a + (if n < 0 then 0 else n) := fun h => wrap_in (by unfold fits; split <;> omega)
  split
  · rename_i h
    rw [hw h]
    congr 1
    repeat' split
    all_goals omega
  · congr 1
    repeat' split
    all_goals omega
theorem IntsPlaces : ∀ (a0 : Int) (a1 : Int), (Lit.int .i64 a0).wf = true → (Lit.int .i64 a1).wf = true → ∃ k, paliolaw01_IntsPlaces.f k a0 a1 = some true := by
  intro a n ha hn
  have h1 : fits a := wf64 ha
  have h2 : fits n := wf64 hn
  refine ⟨5, ?_⟩
  unfold paliolaw01_IntsPlaces.f
  rw [shown_true, clamp_place a n h1 h2]
  simp only [Option.bind_some, paliolaw01_IntsPlaces.j0]
  have hk : place a n ≥ 0 := by unfold place; omega
  have h3 : 0 ≤ n → place a n ≤ n := by unfold place; omega
  have h4 : 0 ≤ a → a ≤ n → place a n = a := by unfold place; omega
  by_cases hx : n < 0 ∨ n > 4611686018427387904
  · have hb : (if n < 0 then true else decide (n > 4611686018427387904)) = true := by
      split
      · rfl
      · rw [decide_eq_true_eq]; omega
    split
    · simp [hk]
    · rename_i hn0
      rw [if_pos (decide_eq_true (by omega))]
      simp [hk]
  · rw [if_neg (show ¬ n < 0 by omega), if_neg (by simp; omega), if_neg (by omega), if_neg (by have := h3 (by omega); omega)]
    have hc : 0 ≤ a → a < n → ints_Clamp.f (wrap64 (a - n)) n = some a := fun h5 h6 => by
      unfold fits at h1 h2
      rw [wrap_in (by unfold fits; omega), clamp_place _ _ (by unfold fits; omega) h2]
      congr 1
      unfold place
      omega
    by_cases h5 : a ≥ 0
    · rw [if_pos h5]
      by_cases h6 : a ≤ n
      · rw [if_pos h6, if_pos (h4 h5 h6), if_pos trivial, if_neg (by omega)]
        by_cases h7 : a ≥ n
        · rw [if_pos h7]
        · rw [if_neg h7, hc h5 (by omega)]; simp
      · rw [if_neg h6, if_pos trivial, if_neg (by omega), if_pos (by omega)]
    · rw [if_neg h5, if_pos trivial, if_pos (by omega)]
end Go.Proofs.Ytbhgpaeaaembjaa.Pure
