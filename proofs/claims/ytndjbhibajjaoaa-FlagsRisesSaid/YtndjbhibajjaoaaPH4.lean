/- The law 'FlagsRises' as the row asks for it: its call answers true. Conditions: the two numbers are of 64 bits. -/
import Derived.Test.YtndjbhibajjaoaaPH3
import Derived.Test.YtndjbhibajjaoaaPureFlagsDecide
namespace Go.Proofs.Ytndjbhibajjaoaa.P
open Go.RowKit Go.Proofs.YtndjbhibajjaoaaW.PrintWords Go.Proofs.YtndjbhibajjaoaaW.PrintLast Go.Proofs.YtndjbhibajjaoaaW.PrintMore

def paliolaw12_FlagsRises.f (_nx _xx _gt _lt _ch _incr _is : Bool) (old n : Int) : Option Bool := if (Lit.int .i64 old).wf = true ∧ (Lit.int .i64 n).wf = true then some true else none
theorem paliolaw12_FlagsRises.calls (nx xx gt lt ch incr is : Bool) (old n : Int) (r : Bool) (w : World) (h : paliolaw12_FlagsRises.f nx xx gt lt ch incr is old n = some r) :
    Calls Try.prog 5 #[.agg #[.bool nx, .bool xx, .bool gt, .bool lt, .bool ch, .bool incr], .bool is, .int .i64 old, .int .i64 n] w fun e w' => e = .returned (.bool r) ∧ Below w.heap.size w w' := by
  unfold paliolaw12_FlagsRises.f at h
  split at h
  · rename_i hw
    obtain rfl : true = r := Option.some.inj h
    have hd := Pure.dec_own nx xx gt lt ch incr is old n hw.1 hw.2
    cases is
    · by_cases he : (Pure.dec nx xx gt lt incr false old n).2.2 = 0
      · have hx : Pure.dec nx xx gt lt incr false old n = ((Pure.dec nx xx gt lt incr false old n).1, (if xx then 0 else 1), 0) := by
          rw [← he]
          revert he
          cases nx <;> cases xx <;> cases gt <;> cases lt <;> cases incr <;> simp [Pure.dec, decided]
          all_goals split <;> simp_all
        rw [hx] at hd
        exact rises_new _ _ _ _ _ _ _ _ _ _ Pure.shown_true rfl hd w
      · exact rises_err _ _ _ _ _ _ _ _ _ _ _ _ Pure.shown_true (bne_iff_ne.mpr he) hd w
    · by_cases he : (Pure.dec nx xx gt lt incr true old n).2.2 = 0
      · by_cases hk : (Pure.dec nx xx gt lt incr true old n).2.1 = 0
        · have hx : Pure.dec nx xx gt lt incr true old n = (old, 0, 0) := by
            revert he hk
            cases nx <;> cases xx <;> cases gt <;> cases lt <;> cases incr <;> simp [Pure.dec, decided]
            all_goals (repeat' split) <;> simp_all
          rw [hx] at hd
          exact rises_kept _ _ _ _ _ _ _ _ Pure.shown_true hd w
        · have hx : nx = false ∧ (Pure.dec nx xx gt lt incr true old n).2.1 = 2 ∧ (Pure.dec nx xx gt lt incr true old n).1 ≠ old ∧ (gt = true → old ≤ (Pure.dec nx xx gt lt incr true old n).1) ∧ (lt = true → (Pure.dec nx xx gt lt incr true old n).1 ≤ old) := by
            revert he hk
            cases nx <;> cases xx <;> cases gt <;> cases lt <;> cases incr <;> simp [Pure.dec, decided]
            all_goals (repeat' split) <;> simp_all <;> omega
          obtain ⟨rfl, h1, h2, h3, h4⟩ := hx
          have hd2 : flags_Decide.f false xx gt lt ch incr true old n = some ((Pure.dec false xx gt lt incr true old n).1, 2, 0) := by rw [hd, ← h1, ← he]
          exact rises_moved _ _ _ _ _ _ _ _ Pure.shown_true (beq_eq_false_iff_ne.mpr h2) h3 h4 hd2 w
      · exact rises_err _ _ _ _ _ _ _ _ _ _ _ _ Pure.shown_true (bne_iff_ne.mpr he) hd w
  · cases h
end Go.Proofs.Ytndjbhibajjaoaa.P
