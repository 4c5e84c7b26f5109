/- Parts of a pattern: what each kind of part says of a character. Conditions: each theorem names its own. -/
import Derived.Test.YtmejbponpkkobaaPx0
import Derived.Lib.Hide
namespace Go.Proofs.Ytmejbponpkkobaa.P
open Go.RowKit Go.Proofs.YtmejbponpkkobaaW.PrintWords Go.Proofs.YtmejbponpkkobaaW.PrintLast Go.Proofs.YtmejbponpkkobaaW.PrintMore

theorem bcell {w w1 : World} (hb : Below w.heap.size w w1) : (∀ g i, g < w.heap.size → w1.cell? ⟨g, i, none⟩ = w.cell? ⟨g, i, none⟩) ∧ (∀ g i, g < w.heap.size → w1.frozen? ⟨g, i, none⟩ = w.frozen? ⟨g, i, none⟩) :=
  ⟨fun g i h => hb.cell (p := ⟨g, i, none⟩) h, fun g i h => hb.frozen (p := ⟨g, i, none⟩) h⟩
theorem more_below {w W w1 : World} (h0 : Below w.heap.size w W) (h1 : Below W.heap.size W w1) : Below w.heap.size w w1 := below_weaken h0 h0.size h1

theorem assert_many (w : World) : (Instr.typeAssert (.iface 48 (.agg #[])) 51 48 true).run Try.prog w = .ok (.tuple #[.agg #[], .bool true]) w := by kernel_rfl
theorem assert_class (v : Value) (o : Bool) (w : World) : (Instr.typeAssert (.iface 57 (.agg #[v, .bool o])) 51 48 true).run Try.prog w = .ok (.tuple #[.agg #[], .bool false]) w := by kernel_rfl
set_option maxHeartbeats 1600000 in
theorem isStar_many (w : World) : Calls Try.prog 28 #[.iface 48 (.agg #[])] w fun e w' => e = .returned (.bool true) ∧ Below w.heap.size w w' := by
  have h1 := assert_many
  go_enter Try.func28, Try.ntmps28
  go_wp2
  go_ret
  exact ⟨rfl, (Below.refl _ w).alloc (Nat.le_refl _) _⟩
set_option maxHeartbeats 1600000 in
theorem isStar_class (v : Value) (o : Bool) (w : World) : Calls Try.prog 28 #[.iface 57 (.agg #[v, .bool o])] w fun e w' => e = .returned (.bool false) ∧ Below w.heap.size w w' := by
  have h1 := assert_class v o
  go_enter Try.func28, Try.ntmps28
  go_wp2
  go_ret
  exact ⟨rfl, (Below.refl _ w).alloc (Nat.le_refl _) _⟩
set_option maxHeartbeats 1600000 in
theorem notStar_many (w : World) : Calls Try.prog 27 #[.iface 48 (.agg #[])] w fun e w' => e = .returned (.bool false) ∧ Below w.heap.size w w' := by
  go_enter Try.func27, Try.ntmps27
  go_wp2_with fail
  refine (isStar_many _).mono ?_
  rintro e w1 ⟨rfl, hb⟩
  go_wp2
  go_ret
  exact ⟨rfl, hb⟩
set_option maxHeartbeats 1600000 in
theorem notStar_class (v : Value) (o : Bool) (w : World) : Calls Try.prog 27 #[.iface 57 (.agg #[v, .bool o])] w fun e w' => e = .returned (.bool true) ∧ Below w.heap.size w w' := by
  go_enter Try.func27, Try.ntmps27
  go_wp2_with fail
  refine (isStar_class v o _).mono ?_
  rintro e w1 ⟨rfl, hb⟩
  go_wp2
  go_ret
  exact ⟨rfl, hb⟩
set_option maxHeartbeats 1600000 in
theorem many_is (r : Int) (w : World) : Calls Try.prog 63 #[.agg #[], .int .i32 r] w fun e w' => e = .returned (.bool true) ∧ Below w.heap.size w w' := by
  go_enter Try.func63, Try.ntmps63
  go_wp2
  go_ret
  exact ⟨rfl, (Below.refl _ w).alloc (Nat.le_refl _) _⟩
/-- Is a character in a span? -/
def inSpan (r : Int) (x : S67) : Bool := decide (x.f0 ≤ r) && decide (r ≤ x.f1)
set_option maxHeartbeats 3200000 in
theorem span_is (x : S67) (r : Int) (B : Nat) (w : World) (hB : B < w.heap.size) (hc : w.cell? ⟨B, 0, none⟩ = some (.int .i32 r)) : Calls Try.prog 66 #[.agg #[.int .i32 x.f0, .int .i32 x.f1], .pointer (some ⟨B, 0, none⟩)] w fun e w' => e = .returned (.bool (inSpan r x)) ∧ Below w.heap.size w w' := by
  unfold inSpan
  by_cases h1 : x.f0 ≤ r <;> by_cases h2 : r ≤ x.f1
  all_goals
    go_enter Try.func66, Try.ntmps66
    go_wp2
    all_goals first | (exfalso; omega) | (go_ret; exact ⟨by simp [h1, h2], (Below.refl _ w).alloc (Nat.le_refl _) _⟩)
end Go.Proofs.Ytmejbponpkkobaa.P
