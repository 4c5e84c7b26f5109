/- paliolaw17.CommandLevels. Conditions: each theorem names its own. -/
import Derived.Test.YtegmbgjolnbgpaaDoorCR
import Derived.Test.YtegmbgjolnbgpaaDoorPx3
namespace Go.Proofs.YtegmbgjolnbgpaaDoor.P
open Go.RowKit Go.Shelf Go.Proofs.YtegmbgjolnbgpaaDoorW.PrintWords Go.Proofs.YtegmbgjolnbgpaaDoorW.PrintLast Go.Proofs.YtegmbgjolnbgpaaDoorW.PrintMore
attribute [local go_sem] Oper.semAt_some
set_option linter.unusedSimpArgs false

theorem lv_l0 : ∀ (j k : Nat) (x m : Int), 0 ≤ x → x < 4 ^ j → x < 4294967296 → j < k → 1 ≤ m → m + j ≤ 32 → ∃ r, command_Level.l0 k x m = some r ∧ m ≤ r ∧ r ≤ m + j ∧ (m + j + 1 ≤ 32 → command_Level.l0 k x (m + 1) = some (r + 1))
  | j, 0, _, _, _, _, _, h, _, _ => absurd h (Nat.not_lt_zero _)
  | 0, k + 1, x, m, h0, h1, _, _, _, _ => by
    have : x = 0 := by simp at h1; omega
    refine ⟨m, by rw [command_Level.l0, if_pos this], Int.le_refl _, by omega, fun _ => by rw [command_Level.l0, if_pos this]⟩
  | j + 1, k + 1, x, m, h0, h1, h2, h3, h4, h5 => by
    by_cases hx : x = 0
    · exact ⟨m, by rw [command_Level.l0, if_pos hx], Int.le_refl _, by omega, fun _ => by rw [command_Level.l0, if_pos hx]⟩
    have ht : Int.tmod x 4 = x % 4 := Int.tmod_eq_emod_of_nonneg h0
    have hd : Int.tdiv x 4 = x / 4 := Int.tdiv_eq_ediv_of_nonneg h0
    have hm : (x / 4) % 4294967296 = x / 4 := by omega
    by_cases h4' : x % 4 = 0
    · have hlt : x / 4 < 4 ^ j := by
        have e : (4 : Int) ^ (j + 1) = 4 ^ j * 4 := by rw [Int.pow_succ]
        rw [e] at h1
        generalize (4 : Int) ^ j = y at h1 ⊢
        omega
      obtain ⟨r, q1, q2, q3, q4⟩ := lv_l0 j k (x / 4) (m + 1) (by omega) hlt (by omega) (by omega) (by omega) (by omega)
      have hw : wrap64 (m + 1) = m + 1 := by unfold wrap64; omega
      have hw2 : wrap64 (m + 1 + 1) = m + 1 + 1 := by unfold wrap64; omega
      refine ⟨r, by rw [command_Level.l0, if_neg hx, ht, if_pos h4', if_pos (by omega), hd, hm, hw]; exact q1, by omega, by omega, fun h => ?_⟩
      rw [command_Level.l0, if_neg hx, ht, if_pos h4', if_pos (by omega), hd, hm, hw2]
      exact q4 (by omega)
    · exact ⟨m, by rw [command_Level.l0, if_neg hx, ht, if_neg h4'], Int.le_refl _, by omega, fun _ => by rw [command_Level.l0, if_neg hx, ht, if_neg h4']⟩
/-- The level of a draw: 1 to 17; of four times as much: one more; of one more than that: 1. -/
theorem lv_of (a : Int) (h0 : 0 ≤ a) (h1 : a < 4294967296) : ∃ n, command_Level.f 20 a = some n ∧ 1 ≤ n ∧ n ≤ 32 ∧ (a = 0 → n = 1) ∧ (a ≠ 0 → a < 1073741824 → command_Level.f 21 (4 * a) = some (n + 1) ∧ command_Level.f 21 (4 * a + 1) = some 1) := by
  obtain ⟨n, q1, q2, q3, q4⟩ := lv_l0 16 20 a 1 h0 (by have : (4 : Int) ^ 16 = 4294967296 := by decide
                                                       omega) h1 (by omega) (by omega) (by omega)
  refine ⟨n, q1, q2, by omega, fun h => ?_, fun h h2 => ⟨?_, ?_⟩⟩
  · subst h
    rw [command_Level.l0, if_pos rfl] at q1
    injection q1 with q1
    exact q1.symm
  · have ht : Int.tmod (4 * a) 4 = 0 := by rw [Int.tmod_eq_emod_of_nonneg (by omega)]; omega
    have hd : Int.tdiv (4 * a) 4 = a := by rw [Int.tdiv_eq_ediv_of_nonneg (by omega)]; omega
    rw [command_Level.f, command_Level.l0, if_neg (by omega), ht, if_pos rfl, if_pos (by decide), hd, show a % 4294967296 = a by omega, show wrap64 (1 + 1) = 1 + 1 by unfold wrap64; omega]
    exact q4 (by omega)
  · have ht : Int.tmod (4 * a + 1) 4 = 1 := by rw [Int.tmod_eq_emod_of_nonneg (by omega)]; omega
    rw [command_Level.f, command_Level.l0, if_neg (by omega), ht, if_neg (by decide)]
set_option maxHeartbeats 4000000 in
set_option maxRecDepth 100000 in
theorem Levels_calls (a : Int) (h0 : 0 ≤ a) (h1 : a < 4294967296) (w : World) (hg : Gl w) : Calls Tryd.prog 6 #[.int .u32 a] w fun e w' => e = .returned (.bool true) ∧ Below w.heap.size w w' := by
  obtain ⟨n, q1, q2, q3, q4, q5⟩ := lv_of a h0 h1
  have HS := Lib.hid (shown_calls w hg)
  have H1 := Lib.hid q1
  have H4 := Lib.hid q4
  have H5 := Lib.hid q5
  have hn1 : decide (n < 1) = false := decide_eq_false (by omega)
  have hn2 : decide (32 < n) = false := decide_eq_false (by omega)
  have e4 : (4 * a) % 4294967296 = (4 * a) % 4294967296 := rfl
  clear q1 q4 q5 hg e4
  by_cases ha : a = 0
  · obtain rfl : n = 1 := H4.out ha
    subst ha
    clear hn1 hn2 q2 q3 h0 h1 H4 H5
    go_enter Tryd.func6, Tryd.ntmps6
    go_wp2_with fail
    refine HS.out.mono ?_
    rintro e w1 ⟨rfl, b1⟩
    have b1 := Lib.hid b1
    go_wp2_with fail
    refine (command_Level.calls _ _ _ w1 H1.out).mono ?_
    rintro e w2 ⟨rfl, b2⟩
    have b2 := Lib.hid (b1.out.trans ((b2.below).mono b1.out.size))
    go_wp2
    go_ret
    exact ⟨rfl, b2.out⟩
  have c0 : (a == 0) = false := by simpa using ha
  by_cases hb : 1073741824 ≤ a
  · have c1 : decide (1073741824 ≤ a) = true := decide_eq_true hb
    clear H4 H5 q2 q3 h0 h1
    go_enter Tryd.func6, Tryd.ntmps6
    go_wp2_with fail
    refine HS.out.mono ?_
    rintro e w1 ⟨rfl, b1⟩
    have b1 := Lib.hid b1
    go_wp2_with fail
    refine (command_Level.calls _ _ _ w1 H1.out).mono ?_
    rintro e w2 ⟨rfl, b2⟩
    have b2 := Lib.hid (b1.out.trans ((b2.below).mono b1.out.size))
    go_wp2
    go_ret
    exact ⟨rfl, b2.out⟩
  obtain ⟨p4, p5⟩ := H5.out ha (by omega)
  have P4 := Lib.hid p4
  have P5 := Lib.hid p5
  have m4 : (4 * a) % 4294967296 = 4 * a := by omega
  have m5 : (4 * a + 1) % 4294967296 = 4 * a + 1 := by omega
  have hw : wrap64 (n + 1) = n + 1 := by unfold wrap64; omega
  have c1 : decide (1073741824 ≤ a) = false := decide_eq_false hb
  clear H4 H5 p4 p5
  go_enter Tryd.func6, Tryd.ntmps6
  go_wp2_with fail
  refine HS.out.mono ?_
  rintro e w1 ⟨rfl, b1⟩
  have b1 := Lib.hid b1
  go_wp2_with fail
  refine (command_Level.calls _ _ _ w1 H1.out).mono ?_
  rintro e w2 ⟨rfl, b2⟩
  have b2 := Lib.hid (b1.out.trans ((b2.below).mono b1.out.size))
  clear b1
  go_wp2_with fail
  refine (command_Level.calls _ _ _ w2 P4.out).mono ?_
  rintro e w3 ⟨rfl, b3⟩
  have b3 := Lib.hid (b2.out.trans ((b3.below).mono b2.out.size))
  clear b2
  go_wp2_with fail
  refine (command_Level.calls _ _ _ w3 P5.out).mono ?_
  rintro e w4 ⟨rfl, b4⟩
  have b4 := Lib.hid (b3.out.trans ((b4.below).mono b3.out.size))
  clear b3
  go_wp2
  go_ret
  exact ⟨rfl, b4.out⟩
end Go.Proofs.YtegmbgjolnbgpaaDoor.P
