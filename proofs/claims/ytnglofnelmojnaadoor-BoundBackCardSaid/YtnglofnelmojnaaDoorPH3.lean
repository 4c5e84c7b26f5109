/- What 'bound.In' answers, at any number and two ends. Conditions: none. -/
import Derived.Test.YtnglofnelmojnaaDoorPx0
import Derived.Lib.Hide
import Derived.WalkSpells
import Derived.Outline
namespace Go.Proofs.YtnglofnelmojnaaDoor.P
open Go.RowKit Go.Lib Go.Proofs.YtnglofnelmojnaaDoorW.PrintWords Go.Proofs.YtnglofnelmojnaaDoorW.PrintLast Go.Proofs.YtnglofnelmojnaaDoorW.PrintMore

/-- The end of a range as the program holds it: below or above all, or a value, left out or not. -/
def endV (inf : Int) (out : Bool) : Value := if inf = 0 then .iface 64 (.agg #[.bool out]) else .iface 69 (.agg #[.int .i64 inf])
theorem of_any (inf : Int) (out : Bool) (w : World) : Calls Tryd.prog 21 #[.int .i64 inf, .bool out] w fun e w' => e = .returned (endV inf out) ∧ w = w' := by
  unfold endV
  by_cases h : inf = 0
  · subst h
    go_enter Tryd.func21, Tryd.ntmps21
    go_wp2
    go_ret
    exact ⟨rfl, rfl⟩
  · have h1 : (inf != 0) = true := bne_iff_ne.mpr h
    rw [if_neg h]
    clear h
    go_enter Tryd.func21, Tryd.ntmps21
    go_wp2
    go_ret
    exact ⟨rfl, rfl⟩
/-- Is a thing behind a low end, ahead of a high one. (lt: it is less than the end's; gt: greater) -/
def lowB (lt gt : Bool) (inf : Int) (out : Bool) : Bool := if inf = 0 then gt || (!lt && !out) else decide (inf < 0)
def highB (lt gt : Bool) (inf : Int) (out : Bool) : Bool := if inf = 0 then lt || (!gt && !out) else decide (0 < inf)
theorem assert_val (out : Bool) (w : World) : (Instr.typeAssert (.iface 64 (.agg #[.bool out])) 47 64 true).run Tryd.prog w = .ok (.tuple #[.agg #[.bool out], .bool true]) w := by kernel_rfl
theorem assert_lim (inf : Int) (w : World) : (Instr.typeAssert (.iface 69 (.agg #[.int .i64 inf])) 47 64 true).run Tryd.prog w = .ok (.tuple #[.agg #[.bool false], .bool false]) w := by kernel_rfl
theorem sign_lim (inf : Int) (w : World) : (method 207 69 (.agg #[.int .i64 inf]) "palio/bound.sign").run Tryd.prog w = .ok (60, .agg #[.int .i64 inf]) w := by kernel_rfl
theorem ret_bool {a b : Bool} (h : b = a) : Ending.returned (.bool a) = .returned (.bool b) := by rw [h]
set_option maxHeartbeats 4000000 in
set_option maxRecDepth 100000 in
theorem behI_low_val (x y : Int) (out : Bool) (w : World) :
    Calls Tryd.prog 20 #[.int .i64 x, .int .i64 y, .iface 64 (.agg #[.bool out]), .int .i64 1] w fun e w' => e = .returned (.bool (lowB (decide (x < y)) (decide (y < x)) 0 out)) ∧ Below w.heap.size w w' := by
  have hta := assert_val
  rcases Int.lt_trichotomy x y with h | h | h
  · go_enter Tryd.func20, Tryd.ntmps20
    go_wp2
    go_ret
    exact ⟨ret_bool (by rw [decide_eq_true h, decide_eq_false (by omega)]; simp [lowB]), by repeat (first | exact Below.refl _ _ | apply below_alloc | refine below_set ?_ (Nat.le_refl _))⟩
  · subst h
    go_enter Tryd.func20, Tryd.ntmps20
    go_wp2
    go_ret
    exact ⟨ret_bool (by simp [lowB]), by repeat (first | exact Below.refl _ _ | apply below_alloc | refine below_set ?_ (Nat.le_refl _))⟩
  · go_enter Tryd.func20, Tryd.ntmps20
    go_wp2
    go_ret
    exact ⟨ret_bool (by rw [decide_eq_true h, decide_eq_false (by omega)]; simp [lowB]), by repeat (first | exact Below.refl _ _ | apply below_alloc | refine below_set ?_ (Nat.le_refl _))⟩
set_option maxHeartbeats 4000000 in
set_option maxRecDepth 100000 in
theorem behI_high_val (x y : Int) (out : Bool) (w : World) :
    Calls Tryd.prog 20 #[.int .i64 x, .int .i64 y, .iface 64 (.agg #[.bool out]), .int .i64 (-1)] w fun e w' => e = .returned (.bool (highB (decide (x < y)) (decide (y < x)) 0 out)) ∧ Below w.heap.size w w' := by
  have hta := assert_val
  rcases Int.lt_trichotomy x y with h | h | h
  · go_enter Tryd.func20, Tryd.ntmps20
    go_wp2
    go_ret
    exact ⟨ret_bool (by rw [decide_eq_true h, decide_eq_false (by omega)]; simp [highB]), by repeat (first | exact Below.refl _ _ | apply below_alloc | refine below_set ?_ (Nat.le_refl _))⟩
  · subst h
    go_enter Tryd.func20, Tryd.ntmps20
    go_wp2
    go_ret
    exact ⟨ret_bool (by simp [highB]), by repeat (first | exact Below.refl _ _ | apply below_alloc | refine below_set ?_ (Nat.le_refl _))⟩
  · go_enter Tryd.func20, Tryd.ntmps20
    go_wp2
    go_ret
    exact ⟨ret_bool (by rw [decide_eq_true h, decide_eq_false (by omega)]; simp [highB]), by repeat (first | exact Below.refl _ _ | apply below_alloc | refine below_set ?_ (Nat.le_refl _))⟩
set_option maxHeartbeats 4000000 in
set_option maxRecDepth 100000 in
theorem behI_low_lim (x y inf : Int) (h0 : inf ≠ 0) (lt gt out : Bool) (w : World) :
    Calls Tryd.prog 20 #[.int .i64 x, .int .i64 y, .iface 69 (.agg #[.int .i64 inf]), .int .i64 1] w fun e w' => e = .returned (.bool (lowB lt gt inf out)) ∧ Below w.heap.size w w' := by
  have hta := assert_lim
  have hsg := sign_lim
  have hp : inf < 0 ∨ 0 < inf := by omega
  have HE := Lib.hid (show lowB lt gt inf out = decide (inf < 0) from if_neg h0)
  clear h0
  rcases hp with h | h
  all_goals
    go_enter Tryd.func20, Tryd.ntmps20
    go_wp2
    go_ret
    exact ⟨ret_bool (by rw [HE.out]; first | (rw [decide_eq_true h]; done) | (rw [decide_eq_false (by omega)]; done) | (rw [decide_eq_true h]; rfl) | (rw [decide_eq_false (by omega)]; rfl)), by repeat (first | exact Below.refl _ _ | apply below_alloc | refine below_set ?_ (Nat.le_refl _))⟩
set_option maxHeartbeats 4000000 in
set_option maxRecDepth 100000 in
theorem behI_high_lim (x y inf : Int) (h0 : inf ≠ 0) (lt gt out : Bool) (w : World) :
    Calls Tryd.prog 20 #[.int .i64 x, .int .i64 y, .iface 69 (.agg #[.int .i64 inf]), .int .i64 (-1)] w fun e w' => e = .returned (.bool (highB lt gt inf out)) ∧ Below w.heap.size w w' := by
  have hta := assert_lim
  have hsg := sign_lim
  have hp : inf < 0 ∨ 0 < inf := by omega
  have HE := Lib.hid (show highB lt gt inf out = decide (0 < inf) from if_neg h0)
  clear h0
  rcases hp with h | h
  all_goals
    go_enter Tryd.func20, Tryd.ntmps20
    go_wp2
    go_ret
    exact ⟨ret_bool (by rw [HE.out]; first | (rw [decide_eq_true h]; done) | (rw [decide_eq_false (by omega)]; done) | (rw [decide_eq_true h]; rfl) | (rw [decide_eq_false (by omega)]; rfl)), by repeat (first | exact Below.refl _ _ | apply below_alloc | refine below_set ?_ (Nat.le_refl _))⟩

/-- The end as one value: what is said of below or above all, whether it is left out. -/
def endW (p : Int × Bool) : Value := endV p.1 p.2
def bound_of.f (a0 : Int) (a1 : Bool) : Option (Int × Bool) := some (a0, a1)
theorem bound_of.calls (a0 : Int) (a1 : Bool) (r : Int × Bool) (w : World) (h : bound_of.f a0 a1 = some r) : Calls Tryd.prog 21 #[.int .i64 a0, .bool a1] w fun e w' => e = .returned (endW r) ∧ Drawn0 w w' := by
  obtain rfl := Option.some.inj h
  refine (of_any a0 a1 w).mono ?_
  rintro e w' ⟨rfl, rfl⟩
  exact ⟨rfl, Drawn0.refl _⟩
def bound_isBehind_int64.f (a0 a1 : Int) (a2 : Int × Bool) (a3 : Int) : Option Bool :=
  if a3 = 1 then some (lowB (decide (a0 < a1)) (decide (a1 < a0)) a2.1 a2.2) else if a3 = -1 then some (highB (decide (a0 < a1)) (decide (a1 < a0)) a2.1 a2.2) else none
theorem bound_isBehind_int64.calls (a0 : Int) (a1 : Int) (a2 : Int × Bool) (a3 : Int) (r : Bool) (w : World) (h : bound_isBehind_int64.f a0 a1 a2 a3 = some r) :
    Calls Tryd.prog 20 #[.int .i64 a0, .int .i64 a1, endW a2, .int .i64 a3] w fun e w' => e = .returned (.bool r) ∧ Below w.heap.size w w' := by
  obtain ⟨inf, out⟩ := a2
  unfold bound_isBehind_int64.f at h
  split at h
  · rename_i h3
    subst h3
    obtain rfl := Option.some.inj h
    by_cases h0 : inf = 0
    · subst h0; exact behI_low_val a0 a1 out w
    · rw [endW, endV, if_neg h0]; exact behI_low_lim a0 a1 inf h0 _ _ _ w
  · split at h
    · rename_i h3
      subst h3
      obtain rfl := Option.some.inj h
      by_cases h0 : inf = 0
      · subst h0; exact behI_high_val a0 a1 out w
      · rw [endW, endV, if_neg h0]; exact behI_high_lim a0 a1 inf h0 _ _ _ w
    · cases h
end Go.Proofs.YtnglofnelmojnaaDoor.P
