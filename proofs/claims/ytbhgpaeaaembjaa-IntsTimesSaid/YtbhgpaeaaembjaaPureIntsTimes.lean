/- A product is that many times added: the pure part. Conditions: none. -/
import Derived.Test.YtbhgpaeaaembjaaPureIntsSums
namespace Go.Proofs.Ytbhgpaeaaembjaa.Pure
open Go.RowKit Go.Proofs.YtbhgpaeaaembjaaW.PrintWords Go.Proofs.YtbhgpaeaaembjaaW.PrintLast Go.Proofs.YtbhgpaeaaembjaaW.PrintMore Go.Proofs.Ytbhgpaeaaembjaa.P

/-- Where i times a is a number of 64 bits, so is each fewer times a. -/
theorem fits_fewer (a : Int) (i n : Int) (h0 : 0 ≤ i) (h1 : i ≤ n) (h : fits (n * a)) : fits (i * a) := by
  unfold fits at *
  rcases Int.le_total 0 a with ha | ha
  · have h2 : i * a ≤ n * a := Int.mul_le_mul_of_nonneg_right h1 ha
    have h3 : 0 ≤ i * a := Int.mul_nonneg h0 ha
    omega
  · have h2 : n * a ≤ i * a := Int.mul_le_mul_of_nonpos_right h1 ha
    have h3 : i * a ≤ 0 := Int.mul_nonpos_of_nonneg_of_nonpos h0 ha
    omega
theorem times_loop (a n : Int) (h1 : fits a) (hn : n ≤ 50) (d : Nat) : ∀ (k : Nat) (i : Int), 0 ≤ i → i ≤ n → n - i = d → d + 1 < k → fits (i * a) →
    paliolaw01_IntsTimes.l0 k a n true (told (n * a)).1 (told (n * a)).2 (i * a) 0 i = some true := by
  induction d with
  | zero =>
    intro k i h0 hi hd hk hf
    obtain ⟨k, rfl⟩ : ∃ m, k = m + 1 := ⟨k - 1, by omega⟩
    obtain rfl : i = n := by omega
    rw [paliolaw01_IntsTimes.l0, if_neg (by omega), if_pos rfl, told_yes hf]
    simp
  | succ d ih =>
    intro k i h0 hi hd hk hf
    obtain ⟨k, rfl⟩ : ∃ m, k = m + 1 := ⟨k - 1, by omega⟩
    rw [paliolaw01_IntsTimes.l0, if_pos (by omega), if_pos rfl, add_own _ a hf h1]
    simp only [Option.bind_some]
    have e : i * a + a = (i + 1) * a := by rw [Int.add_mul, Int.one_mul]
    have ew : wrap64 (i + 1) = i + 1 := wrap_in (by unfold fits; omega)
    rw [e, ew]
    by_cases hs : fits ((i + 1) * a)
    · rw [told_yes hs]
      exact ih k (i + 1) (by omega) (by omega) (by omega) (by omega) hs
    · rw [told_no hs]
      have hno : ¬ fits (n * a) := fun h => hs (fits_fewer a (i + 1) n (by omega) (by omega) h)
      rw [told_no hno]
      obtain ⟨k, rfl⟩ : ∃ m, k = m + 1 := ⟨k - 1, by omega⟩
      rw [paliolaw01_IntsTimes.l0]
      split
      · rw [if_neg (by decide), if_pos rfl]; rfl
      · rw [if_pos rfl]; rfl
theorem IntsTimes : ∀ (a0 : Int) (a1 : Int), (Lit.int .i64 a0).wf = true → (Lit.int .i64 a1).wf = true → ∃ k, paliolaw01_IntsTimes.f k a0 a1 = some true := by
  intro a n ha hn
  have h1 : fits a := wf64 ha
  have h2 : fits n := wf64 hn
  refine ⟨60, ?_⟩
  unfold paliolaw01_IntsTimes.f
  rw [shown_true]
  simp only [Option.bind_some]
  by_cases hx : n < 0
  · rw [if_pos hx, paliolaw01_IntsTimes.j0, if_pos rfl]
  · rw [if_neg hx, paliolaw01_IntsTimes.j0]
    by_cases hy : n > 50
    · rw [if_pos (decide_eq_true hy)]
    · rw [if_neg (by simpa using hy), mul_own a n h1 h2]
      simp only [Option.bind_some]
      have := times_loop a n h1 (by omega) n.toNat 59 0 (by omega) (by omega) (by omega) (by omega) (by rw [Int.zero_mul]; unfold fits; omega)
      rw [Int.zero_mul, Int.mul_comm n a] at this
      exact this
end Go.Proofs.Ytbhgpaeaaembjaa.Pure
