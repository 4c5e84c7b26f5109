/- What 'bound.isBehind' answers of texts. Conditions: none. -/
import Derived.Test.YtnglofnelmojnaaDoorPH3
import Derived.Test.YtnglofnelmojnaaDoorPH6
namespace Go.Proofs.YtnglofnelmojnaaDoor.P
open Go.RowKit Go.Lib Go.Proofs.YtnglofnelmojnaaDoorW.PrintWords Go.Proofs.YtnglofnelmojnaaDoorW.PrintLast Go.Proofs.YtnglofnelmojnaaDoorW.PrintMore

def bound_isBehind_string.f (a0 a1 : ByteArray) (a2 : Int × Bool) (a3 : Int) : Option Bool :=
  (cmp_Compare_string.f a0 a1).bind fun c => if a3 = 1 then some (lowB (decide (c = -1)) (decide (c = 1)) a2.1 a2.2) else if a3 = -1 then some (highB (decide (c = -1)) (decide (c = 1)) a2.1 a2.2) else none
theorem cmp_three (x y : ByteArray) (c : Int) (h : cmp_Compare_string.f x y = some c) : c = -1 ∨ c = 0 ∨ c = 1 := by
  have h := Option.some.inj h
  rw [← h]
  split
  · exact .inl rfl
  · split
    · exact .inr (.inl rfl)
    · exact .inr (.inr rfl)
set_option maxHeartbeats 4000000 in
set_option maxRecDepth 100000 in
theorem behS_low_val (x y : ByteArray) (c : Int) (hc : cmp_Compare_string.f x y = some c) (out : Bool) (w : World) :
    Calls Tryd.prog 22 #[.string x, .string y, .iface 64 (.agg #[.bool out]), .int .i64 1] w fun e w' => e = .returned (.bool (lowB (decide (c = -1)) (decide (c = 1)) 0 out)) ∧ Below w.heap.size w w' := by
  have hta := assert_val
  have h3 := cmp_three x y c hc
  have HC := Lib.hid hc
  clear hc
  rcases h3 with rfl | rfl | rfl
  all_goals
    go_enter Tryd.func22, Tryd.ntmps22
    go_wp2_with fail
    refine (cmp_Compare_string.calls _ _ _ _ HC.out).mono ?_
    rintro e w1 ⟨rfl, hd⟩
    obtain ⟨nd, rfl⟩ := hd.out
    go_wp2
    go_ret
    exact ⟨ret_bool (by simp [lowB]), by repeat (first | exact Below.refl _ _ | apply below_alloc | apply pw_below_drewN | apply below_drew1 | refine below_set ?_ (Nat.le_refl _))⟩
set_option maxHeartbeats 4000000 in
set_option maxRecDepth 100000 in
theorem behS_high_val (x y : ByteArray) (c : Int) (hc : cmp_Compare_string.f x y = some c) (out : Bool) (w : World) :
    Calls Tryd.prog 22 #[.string x, .string y, .iface 64 (.agg #[.bool out]), .int .i64 (-1)] w fun e w' => e = .returned (.bool (highB (decide (c = -1)) (decide (c = 1)) 0 out)) ∧ Below w.heap.size w w' := by
  have hta := assert_val
  have h3 := cmp_three x y c hc
  have HC := Lib.hid hc
  clear hc
  rcases h3 with rfl | rfl | rfl
  all_goals
    go_enter Tryd.func22, Tryd.ntmps22
    go_wp2_with fail
    refine (cmp_Compare_string.calls _ _ _ _ HC.out).mono ?_
    rintro e w1 ⟨rfl, hd⟩
    obtain ⟨nd, rfl⟩ := hd.out
    go_wp2
    go_ret
    exact ⟨ret_bool (by simp [highB]), by repeat (first | exact Below.refl _ _ | apply below_alloc | apply pw_below_drewN | apply below_drew1 | refine below_set ?_ (Nat.le_refl _))⟩
set_option maxHeartbeats 4000000 in
set_option maxRecDepth 100000 in
theorem behS_low_lim (x y : ByteArray) (inf : Int) (h0 : inf ≠ 0) (lt gt out : Bool) (w : World) :
    Calls Tryd.prog 22 #[.string x, .string y, .iface 69 (.agg #[.int .i64 inf]), .int .i64 1] w fun e w' => e = .returned (.bool (lowB lt gt inf out)) ∧ Below w.heap.size w w' := by
  have hta := assert_lim
  have hsg := sign_lim
  have hp : inf < 0 ∨ 0 < inf := by omega
  have HE := Lib.hid (show lowB lt gt inf out = decide (inf < 0) from if_neg h0)
  clear h0
  rcases hp with h | h
  all_goals
    go_enter Tryd.func22, Tryd.ntmps22
    go_wp2
    go_ret
    exact ⟨ret_bool (by rw [HE.out]; first | (rw [decide_eq_true h]; done) | (rw [decide_eq_false (by omega)]; done) | (rw [decide_eq_true h]; rfl) | (rw [decide_eq_false (by omega)]; rfl)), by repeat (first | exact Below.refl _ _ | apply below_alloc | refine below_set ?_ (Nat.le_refl _))⟩
set_option maxHeartbeats 4000000 in
set_option maxRecDepth 100000 in
theorem behS_high_lim (x y : ByteArray) (inf : Int) (h0 : inf ≠ 0) (lt gt out : Bool) (w : World) :
    Calls Tryd.prog 22 #[.string x, .string y, .iface 69 (.agg #[.int .i64 inf]), .int .i64 (-1)] w fun e w' => e = .returned (.bool (highB lt gt inf out)) ∧ Below w.heap.size w w' := by
  have hta := assert_lim
  have hsg := sign_lim
  have hp : inf < 0 ∨ 0 < inf := by omega
  have HE := Lib.hid (show highB lt gt inf out = decide (0 < inf) from if_neg h0)
  clear h0
  rcases hp with h | h
  all_goals
    go_enter Tryd.func22, Tryd.ntmps22
    go_wp2
    go_ret
    exact ⟨ret_bool (by rw [HE.out]; first | (rw [decide_eq_true h]; done) | (rw [decide_eq_false (by omega)]; done) | (rw [decide_eq_true h]; rfl) | (rw [decide_eq_false (by omega)]; rfl)), by repeat (first | exact Below.refl _ _ | apply below_alloc | refine below_set ?_ (Nat.le_refl _))⟩

theorem bound_isBehind_string.calls (a0 : ByteArray) (a1 : ByteArray) (a2 : Int × Bool) (a3 : Int) (r : Bool) (w : World) (h : bound_isBehind_string.f a0 a1 a2 a3 = some r) :
    Calls Tryd.prog 22 #[.string a0, .string a1, endW a2, .int .i64 a3] w fun e w' => e = .returned (.bool r) ∧ Below w.heap.size w w' := by
  obtain ⟨inf, out⟩ := a2
  unfold bound_isBehind_string.f at h
  cases hc : cmp_Compare_string.f a0 a1 with
  | none => rw [hc] at h; cases h
  | some c =>
    rw [hc, Option.bind_some] at h
    by_cases h3 : a3 = 1
    · rw [if_pos h3] at h
      have hr := Option.some.inj h
      subst hr h3
      by_cases h0 : inf = 0
      · subst h0; exact behS_low_val a0 a1 c hc out w
      · rw [endW, endV, if_neg h0]; exact behS_low_lim a0 a1 inf h0 _ _ _ w
    · rw [if_neg h3] at h
      by_cases h4 : a3 = -1
      · rw [if_pos h4] at h
        have hr := Option.some.inj h
        subst hr h4
        by_cases h0 : inf = 0
        · subst h0; exact behS_high_val a0 a1 c hc out w
        · rw [endW, endV, if_neg h0]; exact behS_high_lim a0 a1 inf h0 _ _ _ w
      · rw [if_neg h4] at h; cases h
end Go.Proofs.YtnglofnelmojnaaDoor.P
