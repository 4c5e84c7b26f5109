/- The law GlobAny: a call of it answers true. Conditions: none. -/
import Derived.Test.YtmejbponpkkobaaPH9
import Derived.Test.YtmejbponpkkobaaPureMarks
namespace Go.Proofs.Ytmejbponpkkobaa.P
open Go.RowKit Go.Proofs.YtmejbponpkkobaaW.PrintWords Go.Proofs.YtmejbponpkkobaaW.PrintLast Go.Proofs.YtmejbponpkkobaaW.PrintMore
attribute [local go_sem] max2_int min2_int max_two min_two max_three min_three max_four min_four   -- for this text's walks alone

set_option maxHeartbeats 4000000 in
set_option maxRecDepth 100000 in
theorem any_calls (n : Nat) (s : ByteArray) (hn : n ≤ 64) (hsz : s.size ≤ 140737488351232) (w : World) :
    Calls Try.prog 4 #[.int .i64 (n : Int), .string s] w fun e w' => e = .returned (.bool true) ∧ Below w.heap.size w w' := by
  have HS := Aside0.mk anyShown
  go_enter Try.func4, Try.ntmps4
  go_wp2_with fail
  refine (paliolaw02_shown.calls _ _ HS.out).mono ?_
  rintro e w1 ⟨rfl, hb⟩
  go_wp2
  go_loopg [6, 7] n (fun gg s6 s7 wr => ∃ i : Nat, i ≤ n ∧ n - i ≤ gg ∧ s6 = .string (marks i) ∧ s7 = .int .i64 i ∧ Aside0 (Below w.heap.size w wr))
  case atStart => exact ⟨0, Nat.zero_le _, by omega, rfl, rfl, ⟨hb⟩⟩
  case round =>
    obtain ⟨i, hi, hg, rfl, rfl, BW⟩ := hrel
    have hms := marks_size i
    by_cases hlt : i < n
    · have hltz : (i : Int) < (n : Int) := by omega
      go_wp2
      go_roundg (n - (i + 1))
      case measure => omega
      case rel => exact ⟨i + 1, by omega, by omega, by rw [← marks_succ], by go_num, BW⟩
    · have : i = n := by omega
      subst this
      by_cases hs5 : s.size ≤ 500
      · have hs5z : (s.size : Int) ≤ 500 := by omega
        have HM := Aside0.mk (match_marks i (s) hn (by omega))
        have HM2 := Aside0.mk (match_star (i / 2) (s) (by omega) (by omega))
        have HCt := Aside0.mk (show glob_Count.f (s) = some ((runes (s)).length : Int) by unfold glob_Count.f; rw [if_pos (by omega)])
        have hrl := runes_len (s)
        have hdv : (Int.tdiv (i : Int) 2) = ((i / 2 : Nat) : Int) := by rw [Int.tdiv_eq_ediv_of_nonneg (by omega)]; omega
        have hmt := marks_take i (i / 2) (by omega)
        have hms2 : ((marks i).extract 0 (i / 2)).size = i / 2 := by rw [hmt, marks_size]
        have hms3 : (marks (i / 2)).size = i / 2 := marks_size _
        go_wp2_with fail
        refine (glob_Match.calls _ _ _ _ _ HM.out).mono ?_
        rintro e w2 ⟨rfl, hb2⟩
        have BW2 := Aside0.mk (more_below BW.out hb2)
        go_wp2_with fail
        refine (glob_Match.calls _ _ _ _ _ HM2.out).mono ?_
        rintro e w3 ⟨rfl, hb3⟩
        have BW3 := Aside0.mk (more_below BW2.out hb3)
        obtain ⟨X, hX⟩ : ∃ X : Int, X = ((runes (s)).length : Int) := ⟨_, rfl⟩
        have HCt : Aside0 (glob_Count.f (s) = some X) := ⟨by rw [hX]; exact HCt.out⟩
        have HX := Aside0.mk hX
        rw [← hX]
        clear hX HM HM2 hrl
        generalize hY : (X == (i : Int)) = Y
        generalize hZ : decide (X ≥ ((i / 2 : Nat) : Int)) = Z
        have HY := Aside0.mk hY
        have HZ := Aside0.mk hZ
        clear hY hZ
        go_wp2_with fail
        refine (glob_Count.calls _ _ _ HCt.out).mono ?_
        rintro e w4 ⟨rfl, hb4⟩
        have BW4 := Aside0.mk (more_below BW3.out hb4)
        have hY := HY.out
        have hZ' : decide ((i : Int) / 2 ≤ X) = Z := by rw [← HZ.out]; exact decide_eq_decide.2 (by omega)
        go_wp2_with fail
        refine (glob_Count.calls _ _ _ HCt.out).mono ?_
        rintro e w5 ⟨rfl, hb5⟩
        have BW5 := Aside0.mk (more_below BW4.out hb5)
        go_wp2
        go_ret
        exact ⟨by simp, BW5.out⟩
      · have hs5z : ¬ (s.size : Int) ≤ 500 := by omega
        have hex : (s.extract 0 500).size = 500 := by rw [ByteArray.size_extract]; omega
        have HM := Aside0.mk (match_marks i (s.extract 0 500) hn (by omega))
        have HM2 := Aside0.mk (match_star (i / 2) (s.extract 0 500) (by omega) (by omega))
        have HCt := Aside0.mk (show glob_Count.f (s.extract 0 500) = some ((runes (s.extract 0 500)).length : Int) by unfold glob_Count.f; rw [if_pos (by omega)])
        have hrl := runes_len (s.extract 0 500)
        have hdv : (Int.tdiv (i : Int) 2) = ((i / 2 : Nat) : Int) := by rw [Int.tdiv_eq_ediv_of_nonneg (by omega)]; omega
        have hmt := marks_take i (i / 2) (by omega)
        have hms2 : ((marks i).extract 0 (i / 2)).size = i / 2 := by rw [hmt, marks_size]
        have hms3 : (marks (i / 2)).size = i / 2 := marks_size _
        go_wp2_with fail
        refine (glob_Match.calls _ _ _ _ _ HM.out).mono ?_
        rintro e w2 ⟨rfl, hb2⟩
        have BW2 := Aside0.mk (more_below BW.out hb2)
        go_wp2_with fail
        refine (glob_Match.calls _ _ _ _ _ HM2.out).mono ?_
        rintro e w3 ⟨rfl, hb3⟩
        have BW3 := Aside0.mk (more_below BW2.out hb3)
        obtain ⟨X, hX⟩ : ∃ X : Int, X = ((runes (s.extract 0 500)).length : Int) := ⟨_, rfl⟩
        have HCt : Aside0 (glob_Count.f (s.extract 0 500) = some X) := ⟨by rw [hX]; exact HCt.out⟩
        have HX := Aside0.mk hX
        rw [← hX]
        clear hX HM HM2 hrl
        generalize hY : (X == (i : Int)) = Y
        generalize hZ : decide (X ≥ ((i / 2 : Nat) : Int)) = Z
        have HY := Aside0.mk hY
        have HZ := Aside0.mk hZ
        clear hY hZ
        go_wp2_with fail
        refine (glob_Count.calls _ _ _ HCt.out).mono ?_
        rintro e w4 ⟨rfl, hb4⟩
        have BW4 := Aside0.mk (more_below BW3.out hb4)
        have hY := HY.out
        have hZ' : decide ((i : Int) / 2 ≤ X) = Z := by rw [← HZ.out]; exact decide_eq_decide.2 (by omega)
        go_wp2_with fail
        refine (glob_Count.calls _ _ _ HCt.out).mono ?_
        rintro e w5 ⟨rfl, hb5⟩
        have BW5 := Aside0.mk (more_below BW4.out hb5)
        go_wp2
        go_ret
        exact ⟨by simp, BW5.out⟩
set_option maxHeartbeats 4000000 in
set_option maxRecDepth 100000 in
theorem any_out (a : Int) (s : ByteArray) (ha : a < 0 ∨ 64 < a) (w : World) :
    Calls Try.prog 4 #[.int .i64 a, .string s] w fun e w' => e = .returned (.bool true) ∧ Below w.heap.size w w' := by
  have HS := Aside0.mk anyShown
  rcases ha with ha | ha
  all_goals
    go_enter Try.func4, Try.ntmps4
    go_wp2_with fail
    refine (paliolaw02_shown.calls _ _ HS.out).mono ?_
    rintro e w1 ⟨rfl, hb⟩
    go_wp2
    go_ret
    exact ⟨rfl, hb⟩
def paliolaw02_GlobAny.f (_a : Int) (s : ByteArray) : Option Bool := if s.size ≤ 140737488351232 then some true else none
theorem paliolaw02_GlobAny.calls (a : Int) (s : ByteArray) (r : Bool) (w : World) (h : paliolaw02_GlobAny.f a s = some r) :
    Calls Try.prog 4 #[.int .i64 a, .string s] w fun e w' => e = .returned (.bool r) ∧ Below w.heap.size w w' := by
  unfold paliolaw02_GlobAny.f at h
  by_cases hs : s.size ≤ 140737488351232
  · rw [if_pos hs] at h
    obtain rfl := Option.some.inj h
    by_cases ha : a < 0 ∨ 64 < a
    · exact any_out a s ha w
    · obtain ⟨n, rfl⟩ := Int.eq_ofNat_of_zero_le (by omega : 0 ≤ a)
      exact any_calls n s (by omega) hs w
  · rw [if_neg hs] at h
    cases h
end Go.Proofs.Ytmejbponpkkobaa.P
