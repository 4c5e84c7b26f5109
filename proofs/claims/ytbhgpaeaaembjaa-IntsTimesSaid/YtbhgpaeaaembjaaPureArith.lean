/- Sums, differences, products, places of numbers of 64 bits: what the program's functions and the document's answer. Conditions: each theorem names its own. -/
import Derived.Test.YtbhgpaeaaembjaaPx3
namespace Go.Proofs.Ytbhgpaeaaembjaa.Pure
open Go.RowKit Go.Proofs.YtbhgpaeaaembjaaW.PrintWords Go.Proofs.YtbhgpaeaaembjaaW.PrintLast Go.Proofs.YtbhgpaeaaembjaaW.PrintMore Go.Proofs.Ytbhgpaeaaembjaa.P

theorem wf64 {a : Int} (h : (Lit.int .i64 a).wf = true) : -9223372036854775808 ≤ a ∧ a ≤ 9223372036854775807 := by
  simp only [Lit.wf, IntKind.min, IntKind.max, IntKind.signed, IntKind.bits, Bool.and_eq_true, decide_eq_true_eq, if_true] at h
  omega
def fits (n : Int) : Prop := -9223372036854775808 ≤ n ∧ n ≤ 9223372036854775807
instance (n : Int) : Decidable (fits n) := by unfold fits; infer_instance
/-- A number, or that there is none of 64 bits. -/
def told (n : Int) : Int × Int := if fits n then (n, 0) else (0, 11)
theorem wrap_in {n : Int} (h : fits n) : wrap64 n = n := by unfold fits at h; unfold wrap64; omega
theorem told_no {n : Int} (h : ¬ fits n) : told n = (0, 11) := if_neg h
theorem told_yes {n : Int} (h : fits n) : told n = (n, 0) := if_pos h
theorem add_own (a b : Int) (h1 : fits a) (h2 : fits b) : ints_Add.f a b = some (told (a + b)) := by
  unfold ints_Add.f ints_checked.f told
  by_cases hs : fits (a + b)
  · rw [wrap_in hs, if_pos hs]
    by_cases h0 : b = 0
    · rw [if_pos h0]; rfl
    · rw [if_neg h0]
      have : (decide (a + b > a) == decide (b > 0)) = true := by
        rw [beq_iff_eq, decide_eq_decide]; omega
      rw [this]; rfl
  · unfold fits at h1 h2 hs
    rw [if_neg (show ¬ fits (a + b) from hs), if_neg (by omega)]
    have : (decide (wrap64 (a + b) > a) == decide (b > 0)) = false := by
      rw [beq_eq_false_iff_ne, Ne, decide_eq_decide]; unfold wrap64; omega
    rw [this]; rfl
theorem add_ref (a b : Int) (h1 : fits a) (h2 : fits b) : palioref01_Add.f a b = some (told (a + b)) := by
  unfold palioref01_Add.f told
  by_cases hs : fits (a + b)
  · rw [wrap_in hs, if_pos hs]
    repeat' split
    all_goals first | rfl | (exfalso; omega)
  · rw [if_neg hs]
    unfold fits at h1 h2 hs
    have hw : a + b ≤ 9223372036854775807 ∧ wrap64 (a + b) ≥ 0 ∨ a + b ≥ 0 ∧ wrap64 (a + b) < 0 := by unfold wrap64; omega
    generalize wrap64 (a + b) = x at *
    repeat' split
    all_goals first | rfl | (exfalso; omega)
theorem sub_own (a b : Int) (h1 : fits a) (h2 : fits b) : ints_Sub.f a b = some (told (a - b)) := by
  unfold ints_Sub.f ints_checked.f told
  by_cases hs : fits (a - b)
  · rw [wrap_in hs, if_pos hs]
    by_cases h0 : b = 0
    · rw [if_pos h0]; rfl
    · rw [if_neg h0]
      have : (decide (a - b < a) == decide (b > 0)) = true := by
        rw [beq_iff_eq, decide_eq_decide]; omega
      rw [this]; rfl
  · unfold fits at h1 h2 hs
    rw [if_neg (show ¬ fits (a - b) from hs), if_neg (by omega)]
    have : (decide (wrap64 (a - b) < a) == decide (b > 0)) = false := by
      rw [beq_eq_false_iff_ne, Ne, decide_eq_decide]; unfold wrap64; omega
    rw [this]; rfl
theorem sub_ref (a b : Int) (h1 : fits a) (h2 : fits b) : palioref01_Sub.f a b = some (told (a - b)) := by
  unfold palioref01_Sub.f told
  by_cases hs : fits (a - b)
  · rw [wrap_in hs, if_pos hs]
    unfold fits at hs
    repeat' split
    all_goals first | rfl | (exfalso; omega)
  · rw [if_neg hs]
    unfold fits at h1 h2 hs
    have hw : a - b ≤ 9223372036854775807 ∧ wrap64 (a - b) ≥ 0 ∨ a - b ≥ 0 ∧ wrap64 (a - b) < 0 := by unfold wrap64; omega
    generalize wrap64 (a - b) = x at *
    repeat' split
    all_goals first | rfl | (exfalso; omega)
/-- A product that is no number of 64 bits: what it is cut to, divided again, isn't the factor. -/
theorem mul_cut (a b : Int) (h1 : fits a) (h2 : fits b) (h0 : b ≠ 0) (hb : b ≠ -1) (hs : ¬ fits (a * b)) : wrap64 (Int.tdiv (wrap64 (a * b)) b) ≠ a := by
  intro h
  have hn : fits (wrap64 (a * b)) := by unfold fits wrap64; omega
  have hq : a * b = wrap64 (a * b) + 18446744073709551616 * ((a * b + 9223372036854775808) / 18446744073709551616) := by unfold wrap64; omega
  generalize wrap64 (a * b) = n at *
  have hd := Int.mul_tdiv_add_tmod n b
  have hr : (Int.tmod n b).natAbs < b.natAbs := by
    rw [Int.natAbs_tmod]; exact Nat.mod_lt _ (by omega)
  have hle : (Int.tdiv n b).natAbs ≤ n.natAbs := by rw [Int.natAbs_tdiv]; exact Nat.div_le_self _ _
  have hle2 : b = 1 ∨ (Int.tdiv n b).natAbs ≤ n.natAbs / 2 := by
    by_cases hb1 : b = 1
    · exact .inl hb1
    · right
      rw [Int.natAbs_tdiv]
      exact Nat.div_le_div_left (by omega) (by omega)
  have ht : fits (Int.tdiv n b) := by
    rcases hle2 with rfl | h3
    · rw [Int.tdiv_one]; exact hn
    · unfold fits at *; omega
  rw [wrap_in ht] at h
  rw [h] at hd
  have hc : b * a = a * b := Int.mul_comm b a
  rw [hc] at hd
  generalize a * b = p at *
  unfold fits at *
  omega
theorem mul_back (a b : Int) (h1 : fits a) (h0 : b ≠ 0) (hs : fits (a * b)) : wrap64 (Int.tdiv (wrap64 (a * b)) b) = a := by
  rw [wrap_in hs, Int.mul_tdiv_cancel _ h0, wrap_in h1]
theorem mul_own (a b : Int) (h1 : fits a) (h2 : fits b) : ints_Mul.f a b = some (told (a * b)) := by
  unfold ints_Mul.f ints_checked.f
  by_cases ha : a = 0
  · rw [if_pos ha, ha, Int.zero_mul, told_yes (by unfold fits; omega)]
  rw [if_neg ha]
  by_cases hb : b = 0
  · rw [if_pos hb, hb, Int.mul_zero, told_yes (by unfold fits; omega)]
  rw [if_neg hb]
  by_cases hs : fits (a * b)
  · rw [told_yes hs, if_pos (mul_back a b h1 hb hs), wrap_in hs]
    by_cases hx : a = -1
    · subst hx
      have hy : ¬ b = -9223372036854775808 := by unfold fits at hs; omega
      rw [if_pos rfl, if_neg hy]
      by_cases hz : b = -1
      · subst hz; rfl
      · rw [if_neg hz]; rfl
    · rw [if_neg hx]
      by_cases hz : b = -1
      · subst hz
        have hy : (a == -9223372036854775808) = false := by rw [beq_eq_false_iff_ne]; unfold fits at hs; omega
        rw [if_pos rfl, hy]; rfl
      · rw [if_neg hz]; rfl
  · rw [told_no hs]
    by_cases hm : b = -1
    · subst hm
      have hy : a = -9223372036854775808 := by unfold fits at hs h1; omega
      subst hy
      decide +kernel
    · rw [if_neg (mul_cut a b h1 h2 hb hm hs)]; rfl
theorem mul_ref (a b : Int) (h1 : fits a) (h2 : fits b) : palioref01_Mul.f 5 a b = some (told (a * b)) := by
  unfold palioref01_Mul.f
  rw [palioref01_Mul.j0, palioref01_Mul.j0]
  by_cases ha : a = 0
  · rw [if_pos ha, if_pos rfl, ha, Int.zero_mul, told_yes (by unfold fits; omega)]
  rw [if_neg ha]
  by_cases hb : b = 0
  · have hz : (b == 0) = true := beq_iff_eq.mpr hb
    rw [hz, if_pos rfl, hb, Int.mul_zero, told_yes (by unfold fits; omega)]
  have hz : (b == 0) = false := beq_eq_false_iff_ne.mpr hb
  rw [hz, if_neg (by decide)]
  by_cases hs : fits (a * b)
  · have hk := mul_back a b h1 hb hs
    rw [told_yes hs]
    by_cases hx : a = -1
    · subst hx
      have hy : ¬ b = -9223372036854775808 := by unfold fits at hs; omega
      rw [if_pos rfl, if_neg hy]
      by_cases hw : b = -1
      · subst hw; decide +kernel
      · rw [if_neg hw, if_neg hb, if_pos hk, wrap_in hs]
    · rw [if_neg hx]
      by_cases hw : b = -1
      · subst hw
        have hy : ¬ a = -9223372036854775808 := by unfold fits at hs; omega
        rw [if_pos rfl, if_neg hy, if_neg hb, if_pos hk, wrap_in hs]
      · rw [if_neg hw, if_neg hb, if_pos hk, wrap_in hs]
  · rw [told_no hs]
    by_cases hm : b = -1
    · subst hm
      have hy : a = -9223372036854775808 := by unfold fits at hs h1; omega
      subst hy
      decide +kernel
    · have hk := mul_cut a b h1 h2 hb hm hs
      by_cases hx : a = -1
      · subst hx
        have hy : b = -9223372036854775808 := by unfold fits at hs h2; omega
        rw [if_pos rfl, if_pos hy]
      · rw [if_neg hx, if_neg hm, if_neg hb, if_neg hk]
theorem clamp_eq (a b : Int) : ints_Clamp.f a b = palioref01_Clamp.f a b := by
  unfold ints_Clamp.f palioref01_Clamp.f mx mn
  have hm : (if b < 0 then 0 else b) = (if 0 < b then b else 0) := by split <;> split <;> omega
  rw [hm]
  generalize (if 0 < b then b else 0) = m
  split
  · congr 1
    generalize wrap64 (a + m) = y
    repeat' split
    all_goals omega
  · congr 1
    repeat' split
    all_goals omega
end Go.Proofs.Ytbhgpaeaaembjaa.Pure
