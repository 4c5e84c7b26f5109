/- What 'flags.Right' answers, at every six flags. Conditions: none. -/
import Derived.Test.YtndjbhibajjaoaaPx0
import Derived.Outline
import Derived.WalkKit
import Derived.WalkSpells
import Derived.Lib.Hide
namespace Go.Proofs.Ytndjbhibajjaoaa.P
open Go.RowKit Go.Proofs.YtndjbhibajjaoaaW.PrintWords Go.Proofs.YtndjbhibajjaoaaW.PrintLast Go.Proofs.YtndjbhibajjaoaaW.PrintMore

theorem anyOf3 (x y z : Bool) (b : Nat) (w : World) (h0 : w.cell? ⟨b, 0, none⟩ = some (.bool x)) (h1 : w.cell? ⟨b, 1, none⟩ = some (.bool y)) (h2 : w.cell? ⟨b, 2, none⟩ = some (.bool z)) :
    Calls Try.prog 22 #[.slice (some ⟨b, 0, none⟩) 3 3] w fun e w' => e = .returned (.bool (x || y || z)) ∧ w = w' := by
  cases x <;> cases y <;> cases z
  all_goals
    go_enter Try.func22, Try.ntmps22
    go_wp2
    refine wp_loop_rounds 4 ?_
    repeat (rw [rounds_succ]; go_wp2)
    go_ret
    exact ⟨rfl, rfl⟩

theorem anyOf3' (x y z d : Bool) (hd : (x || y || z) = d) (b : Nat) (w : World) (h0 : w.cell? ⟨b, 0, none⟩ = some (.bool x)) (h1 : w.cell? ⟨b, 1, none⟩ = some (.bool y)) (h2 : w.cell? ⟨b, 2, none⟩ = some (.bool z)) :
    Calls Try.prog 22 #[.slice (some ⟨b, 0, none⟩) 3 3] w fun e w' => e = .returned (.bool d) ∧ w = w' := hd ▸ anyOf3 x y z b w h0 h1 h2
set_option maxHeartbeats 4000000 in
set_option maxRecDepth 100000 in
theorem right_nx (x g l c i : Bool) (w : World) :
    Calls Try.prog 12 #[.agg #[.bool true, .bool x, .bool g, .bool l, .bool c, .bool i]] w fun e w' => e = .returned (.bool (!(x || g || l) && !(g && l))) ∧ Below w.heap.size w w' := by
  cases hx : (x || g || l) <;> cases g
  all_goals
    have HX := Lib.hid hx
    clear hx
    go_enter Try.func12, Try.ntmps12
    go_wp2_with fail
    refine (anyOf3' x _ l _ HX.out _ _ ?_ ?_ ?_).mono ?_
    · go_simp
    · go_simp
    · go_simp
    rintro e w' ⟨rfl, rfl⟩
    go_wp2
    go_ret
    exact ⟨rfl, by repeat (first | exact Below.refl _ _ | apply below_alloc | refine below_set ?_ (by omega))⟩
set_option maxHeartbeats 4000000 in
set_option maxRecDepth 100000 in
theorem right_no (x g l c i : Bool) (w : World) :
    Calls Try.prog 12 #[.agg #[.bool false, .bool x, .bool g, .bool l, .bool c, .bool i]] w fun e w' => e = .returned (.bool (!(g && l))) ∧ Below w.heap.size w w' := by
  cases g
  all_goals
    go_enter Try.func12, Try.ntmps12
    go_wp2
    all_goals
      go_ret
      exact ⟨rfl, by repeat (first | exact Below.refl _ _ | apply below_alloc | refine below_set ?_ (by omega))⟩

/-- What the program's own 'Right' answers: the conditions of a member's being added do not exclude each other. -/
def flags_Right.f (a0_0 a0_1 a0_2 a0_3 _a0_4 _a0_5 : Bool) : Option Bool := some (!(a0_0 && (a0_1 || a0_2 || a0_3)) && !(a0_2 && a0_3))
theorem flags_Right.calls (a0_0 : Bool) (a0_1 : Bool) (a0_2 : Bool) (a0_3 : Bool) (a0_4 : Bool) (a0_5 : Bool) (r : Bool) (w : World) (h : flags_Right.f a0_0 a0_1 a0_2 a0_3 a0_4 a0_5 = some r) :
    Calls Try.prog 12 #[.agg #[.bool a0_0, .bool a0_1, .bool a0_2, .bool a0_3, .bool a0_4, .bool a0_5]] w fun e w' => e = .returned (.bool r) ∧ Below w.heap.size w w' := by
  simp only [flags_Right.f, Option.some.injEq] at h
  subst h
  cases a0_0
  · simpa using right_no a0_1 a0_2 a0_3 a0_4 a0_5 w
  · simpa using right_nx a0_1 a0_2 a0_3 a0_4 a0_5 w
end Go.Proofs.Ytndjbhibajjaoaa.P
