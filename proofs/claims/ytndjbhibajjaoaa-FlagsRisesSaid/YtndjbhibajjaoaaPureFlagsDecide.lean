/- What is decided is what the document says, at any flags, whether a member is there, two numbers: the pure part. Conditions: none. -/
import Derived.Test.YtndjbhibajjaoaaPx4
namespace Go.Proofs.Ytndjbhibajjaoaa.Pure
open Go.RowKit Go.Proofs.YtndjbhibajjaoaaW.PrintWords Go.Proofs.YtndjbhibajjaoaaW.PrintLast Go.Proofs.Ytndjbhibajjaoaa.P

theorem wf64 {a : Int} (h : (Lit.int .i64 a).wf = true) : -9223372036854775808 ≤ a ∧ a ≤ 9223372036854775807 := by
  simp only [Lit.wf, IntKind.min, IntKind.max, IntKind.signed, IntKind.bits, Bool.and_eq_true, decide_eq_true_eq, if_true] at h
  omega
/-- A sum, or that there is none. -/
def addZ (a b : Int) : Int × Int := if -9223372036854775808 ≤ a + b ∧ a + b ≤ 9223372036854775807 then (a + b, 0) else (0, 11)
theorem wrap_in {n : Int} (h : -9223372036854775808 ≤ n ∧ n ≤ 9223372036854775807) : wrap64 n = n := by unfold wrap64; omega
theorem add_own (a b : Int) (ha : (Lit.int .i64 a).wf = true) (hb : (Lit.int .i64 b).wf = true) : ints_Add.f a b = some (addZ a b) := by
  have h1 := wf64 ha
  have h2 := wf64 hb
  unfold ints_Add.f ints_checked.f addZ
  by_cases hs : -9223372036854775808 ≤ a + b ∧ a + b ≤ 9223372036854775807
  · rw [wrap_in hs, if_pos hs]
    by_cases h0 : b = 0
    · rw [if_pos h0]; rfl
    · rw [if_neg h0]
      have : (decide (a + b > a) == decide (b > 0)) = true := by
        rw [beq_iff_eq, decide_eq_decide]; omega
      rw [this]; rfl
  · rw [if_neg hs, if_neg (by omega)]
    have : (decide (wrap64 (a + b) > a) == decide (b > 0)) = false := by
      rw [beq_eq_false_iff_ne, Ne, decide_eq_decide]; unfold wrap64; omega
    rw [this]; rfl
theorem add_ref (a b : Int) (ha : (Lit.int .i64 a).wf = true) (hb : (Lit.int .i64 b).wf = true) : palioref01_Add.f a b = some (addZ a b) := by
  have h1 := wf64 ha
  have h2 := wf64 hb
  unfold palioref01_Add.f addZ
  by_cases hs : -9223372036854775808 ≤ a + b ∧ a + b ≤ 9223372036854775807
  · rw [wrap_in hs, if_pos hs]
    repeat' split
    all_goals first | rfl | (exfalso; omega)
  · rw [if_neg hs]
    have hw : a + b ≤ 9223372036854775807 ∧ wrap64 (a + b) ≥ 0 ∨ a + b ≥ 0 ∧ wrap64 (a + b) < 0 := by unfold wrap64; omega
    generalize wrap64 (a + b) = x at *
    repeat' split
    all_goals first | rfl | (exfalso; omega)
theorem shown_true : paliolaw12_shown.f = some true := by decide +kernel
/-- What both answer. -/
def dec (nx xx gt lt incr is : Bool) (old n : Int) : Int × Int × Int :=
  if (!(nx && (xx || gt || lt)) && !(gt && lt)) = false then (0, 0, 110) else
  if (is && nx || !is && xx) = true then ((if is then old else 0), 0, 0) else
  decided gt lt is (if is then old else 0) (if incr then addZ (if is then old else 0) n else (n, 0)).1 (if incr then addZ (if is then old else 0) n else (n, 0)).2
theorem dec_own (a0_0 a0_1 a0_2 a0_3 a0_4 a0_5 a1 : Bool) (a2 a3 : Int) (ha : (Lit.int .i64 a2).wf = true) (hb : (Lit.int .i64 a3).wf = true) :
    flags_Decide.f a0_0 a0_1 a0_2 a0_3 a0_4 a0_5 a1 a2 a3 = some (dec a0_0 a0_1 a0_2 a0_3 a0_5 a1 a2 a3) := by
  have hz : (Lit.int .i64 0).wf = true := by decide +kernel
  simp only [flags_Decide.f, flags_Right.f, Option.bind_some, dec]
  cases a1 <;> cases a0_0 <;> cases a0_1 <;> cases a0_2 <;> cases a0_3 <;> cases a0_5 <;> simp [add_own 0 a3 hz hb, add_own a2 a3 ha hb]
theorem dec_ref (a0_0 a0_1 a0_2 a0_3 a0_4 a0_5 a1 : Bool) (a2 a3 : Int) (ha : (Lit.int .i64 a2).wf = true) (hb : (Lit.int .i64 a3).wf = true) :
    palioref12_Decide.f 5 a0_0 a0_1 a0_2 a0_3 a0_4 a0_5 a1 a2 a3 = some (dec a0_0 a0_1 a0_2 a0_3 a0_5 a1 a2 a3) := by
  have hz : (Lit.int .i64 0).wf = true := by decide +kernel
  simp only [palioref12_Decide.f, palioref12_Right.f, palioref12_Decide.j0, palioref12_Decide.j1, palioref12_Decide.j2, add_ref 0 a3 hz hb, add_ref a2 a3 ha hb, Option.bind_some, dec, decided]
  have h0 : addZ 0 a3 = ((addZ 0 a3).1, (addZ 0 a3).2) := rfl
  cases a1 <;> cases a0_0 <;> cases a0_1 <;> cases a0_2 <;> cases a0_3 <;> cases a0_5 <;> simp
  all_goals first | (repeat' split) <;> first | rfl | (simp; omega) | (exfalso; omega) | simp_all
theorem right_eq (a b c d e f : Bool) : flags_Right.f a b c d e f = palioref12_Right.f a b c d e f := by
  cases a <;> cases b <;> cases c <;> cases d <;> rfl
theorem FlagsDecide : ∀ (a0_0 : Bool) (a0_1 : Bool) (a0_2 : Bool) (a0_3 : Bool) (a0_4 : Bool) (a0_5 : Bool) (a1 : Bool) (a2 : Int) (a3 : Int), (Lit.int .i64 a2).wf = true → (Lit.int .i64 a3).wf = true → ∃ k, paliolaw12_FlagsDecide.f k a0_0 a0_1 a0_2 a0_3 a0_4 a0_5 a1 a2 a3 = some true := by
  intro a0_0 a0_1 a0_2 a0_3 a0_4 a0_5 a1 a2 a3 ha hb
  refine ⟨5, ?_⟩
  unfold paliolaw12_FlagsDecide.f
  rw [shown_true, dec_own _ _ _ _ _ _ _ _ _ ha hb, dec_ref _ _ _ _ _ _ _ _ _ ha hb, right_eq]
  simp only [Option.bind_some, if_true]
  cases h : palioref12_Right.f a0_0 a0_1 a0_2 a0_3 a0_4 a0_5 with
  | none => rw [← right_eq] at h; simp [flags_Right.f] at h
  | some b => simp
end Go.Proofs.Ytndjbhibajjaoaa.Pure
