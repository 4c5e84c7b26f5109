/- The law GlobQuotes: a call of it answers true. Conditions: that the texts are no longer than any machine's. -/
import Derived.Test.YtmejbponpkkobaaPH14
import Derived.Test.YtmejbponpkkobaaPureQuote
namespace Go.Proofs.Ytmejbponpkkobaa.P
open Go.RowKit Go.Proofs.YtmejbponpkkobaaW.PrintWords Go.Proofs.YtmejbponpkkobaaW.PrintLast Go.Proofs.YtmejbponpkkobaaW.PrintMore
attribute [local go_sem] max2_int min2_int max_two min_two max_three min_three max_four min_four   -- for this text's walks alone

set_option maxHeartbeats 4000000 in
set_option maxRecDepth 100000 in
theorem quotes_00 (P S : ByteArray) (hP : P.size ≤ 140737488351232) (hS : S.size ≤ 140737488351232) (hpz : P.size ≤ 30) (hsz : S.size ≤ 30) (w : World) :
    Calls Try.prog 5 #[.string P, .string S] w fun e w' => e = .returned (.bool true) ∧ Below w.heap.size w w' := by
  have HS := Aside0.mk plShown
  have h1 : (P).size ≤ 30 := by exact hpz
  have h2 : (S).size ≤ 30 := by exact hsz
  obtain ⟨Q, hQ⟩ : ∃ Q : ByteArray, Q = ⟨(qt (P).data.toList).toArray⟩ := ⟨_, rfl⟩
  have HPl := Aside0.mk (show glob_Quote.f (P) = some Q by unfold glob_Quote.f; rw [if_pos (by omega), hQ])
  have HM1 : Aside0 (glob_Match.f Q (P) = some (true, 0)) := ⟨by rw [hQ, match_quoted _ _ h1 (by omega), decide_eq_true rfl]⟩
  have HM2 : Aside0 (glob_Match.f Q (S) = some (decide (runes (S) = runes (P)), 0)) := ⟨by rw [hQ, match_quoted _ _ h1 (by omega)]⟩
  clear hQ
  go_enter Try.func5, Try.ntmps5
  go_wp2_with fail
  refine (paliolaw02_shown.calls _ _ HS.out).mono ?_
  rintro e w1 ⟨rfl, hb⟩
  go_wp2_with fail
  refine (glob_Quote.calls _ _ _ HPl.out).mono ?_
  rintro e w2 ⟨rfl, hb2⟩
  have B2 := Aside0.mk (more_below hb hb2)
  go_wp2_with fail
  refine (glob_Match.calls _ _ _ _ _ HM1.out).mono ?_
  rintro e w3 ⟨rfl, hb3⟩
  have B3 := Aside0.mk (more_below B2.out hb3)
  go_wp2_with fail
  refine (glob_Match.calls _ _ _ _ _ HM2.out).mono ?_
  rintro e w4 ⟨rfl, hb4⟩
  have B4 := Aside0.mk (more_below B3.out hb4)
  obtain ⟨c5, w5, hc5, hd5, hz5, hb5, hC5⟩ := runes_conv (P) (by omega) w4
  have hk5 := back_conv _ _ c5 _ hC5
  obtain ⟨c6, w6, hc6, hd6, hz6, hb6, hC6⟩ := runes_conv (S) (by omega) w5
  have hk6 := back_conv _ _ c6 _ hC6
  have B6 := Aside0.mk (more_below (more_below B4.out hb5) hb6)
  clear hd5 hb5 hC5 hd6 hb6 hC6 hz5 hz6
  have hsame : ((runesBytes (runes (P))).toList == (runesBytes (runes (S))).toList) = decide (runes (S) = runes (P)) := by
    rw [Bool.eq_iff_iff, beq_iff_eq, decide_eq_true_eq]
    exact same_back _ _
  have HSame := Aside0.mk hsame
  clear hsame
  go_wp2_with fail
  go_ret
  refine ⟨?_, B6.out⟩
  show Ending.returned (.bool (decide (runes (S) = runes (P)) == ((runesBytes (runes (P))).toList == (runesBytes (runes (S))).toList))) = _
  rw [HSame.out]
  simp
set_option maxHeartbeats 4000000 in
set_option maxRecDepth 100000 in
theorem quotes_01 (P S : ByteArray) (hP : P.size ≤ 140737488351232) (hS : S.size ≤ 140737488351232) (hpz : P.size ≤ 30) (hsz : ¬ S.size ≤ 30) (w : World) :
    Calls Try.prog 5 #[.string P, .string S] w fun e w' => e = .returned (.bool true) ∧ Below w.heap.size w w' := by
  have HS := Aside0.mk plShown
  have h1 : (P).size ≤ 30 := by exact hpz
  have h2 : (S.extract 0 30).size ≤ 30 := by rw [ByteArray.size_extract]; omega
  obtain ⟨Q, hQ⟩ : ∃ Q : ByteArray, Q = ⟨(qt (P).data.toList).toArray⟩ := ⟨_, rfl⟩
  have HPl := Aside0.mk (show glob_Quote.f (P) = some Q by unfold glob_Quote.f; rw [if_pos (by omega), hQ])
  have HM1 : Aside0 (glob_Match.f Q (P) = some (true, 0)) := ⟨by rw [hQ, match_quoted _ _ h1 (by omega), decide_eq_true rfl]⟩
  have HM2 : Aside0 (glob_Match.f Q (S.extract 0 30) = some (decide (runes (S.extract 0 30) = runes (P)), 0)) := ⟨by rw [hQ, match_quoted _ _ h1 (by omega)]⟩
  clear hQ
  go_enter Try.func5, Try.ntmps5
  go_wp2_with fail
  refine (paliolaw02_shown.calls _ _ HS.out).mono ?_
  rintro e w1 ⟨rfl, hb⟩
  go_wp2_with fail
  refine (glob_Quote.calls _ _ _ HPl.out).mono ?_
  rintro e w2 ⟨rfl, hb2⟩
  have B2 := Aside0.mk (more_below hb hb2)
  go_wp2_with fail
  refine (glob_Match.calls _ _ _ _ _ HM1.out).mono ?_
  rintro e w3 ⟨rfl, hb3⟩
  have B3 := Aside0.mk (more_below B2.out hb3)
  go_wp2_with fail
  refine (glob_Match.calls _ _ _ _ _ HM2.out).mono ?_
  rintro e w4 ⟨rfl, hb4⟩
  have B4 := Aside0.mk (more_below B3.out hb4)
  obtain ⟨c5, w5, hc5, hd5, hz5, hb5, hC5⟩ := runes_conv (P) (by omega) w4
  have hk5 := back_conv _ _ c5 _ hC5
  obtain ⟨c6, w6, hc6, hd6, hz6, hb6, hC6⟩ := runes_conv (S.extract 0 30) (by omega) w5
  have hk6 := back_conv _ _ c6 _ hC6
  have B6 := Aside0.mk (more_below (more_below B4.out hb5) hb6)
  clear hd5 hb5 hC5 hd6 hb6 hC6 hz5 hz6
  have hsame : ((runesBytes (runes (P))).toList == (runesBytes (runes (S.extract 0 30))).toList) = decide (runes (S.extract 0 30) = runes (P)) := by
    rw [Bool.eq_iff_iff, beq_iff_eq, decide_eq_true_eq]
    exact same_back _ _
  have HSame := Aside0.mk hsame
  clear hsame
  go_wp2_with fail
  go_ret
  refine ⟨?_, B6.out⟩
  show Ending.returned (.bool (decide (runes (S.extract 0 30) = runes (P)) == ((runesBytes (runes (P))).toList == (runesBytes (runes (S.extract 0 30))).toList))) = _
  rw [HSame.out]
  simp
set_option maxHeartbeats 4000000 in
set_option maxRecDepth 100000 in
theorem quotes_10 (P S : ByteArray) (hP : P.size ≤ 140737488351232) (hS : S.size ≤ 140737488351232) (hpz : ¬ P.size ≤ 30) (hsz : S.size ≤ 30) (w : World) :
    Calls Try.prog 5 #[.string P, .string S] w fun e w' => e = .returned (.bool true) ∧ Below w.heap.size w w' := by
  have HS := Aside0.mk plShown
  have h1 : (P.extract 0 30).size ≤ 30 := by rw [ByteArray.size_extract]; omega
  have h2 : (S).size ≤ 30 := by exact hsz
  obtain ⟨Q, hQ⟩ : ∃ Q : ByteArray, Q = ⟨(qt (P.extract 0 30).data.toList).toArray⟩ := ⟨_, rfl⟩
  have HPl := Aside0.mk (show glob_Quote.f (P.extract 0 30) = some Q by unfold glob_Quote.f; rw [if_pos (by omega), hQ])
  have HM1 : Aside0 (glob_Match.f Q (P.extract 0 30) = some (true, 0)) := ⟨by rw [hQ, match_quoted _ _ h1 (by omega), decide_eq_true rfl]⟩
  have HM2 : Aside0 (glob_Match.f Q (S) = some (decide (runes (S) = runes (P.extract 0 30)), 0)) := ⟨by rw [hQ, match_quoted _ _ h1 (by omega)]⟩
  clear hQ
  go_enter Try.func5, Try.ntmps5
  go_wp2_with fail
  refine (paliolaw02_shown.calls _ _ HS.out).mono ?_
  rintro e w1 ⟨rfl, hb⟩
  go_wp2_with fail
  refine (glob_Quote.calls _ _ _ HPl.out).mono ?_
  rintro e w2 ⟨rfl, hb2⟩
  have B2 := Aside0.mk (more_below hb hb2)
  go_wp2_with fail
  refine (glob_Match.calls _ _ _ _ _ HM1.out).mono ?_
  rintro e w3 ⟨rfl, hb3⟩
  have B3 := Aside0.mk (more_below B2.out hb3)
  go_wp2_with fail
  refine (glob_Match.calls _ _ _ _ _ HM2.out).mono ?_
  rintro e w4 ⟨rfl, hb4⟩
  have B4 := Aside0.mk (more_below B3.out hb4)
  obtain ⟨c5, w5, hc5, hd5, hz5, hb5, hC5⟩ := runes_conv (P.extract 0 30) (by omega) w4
  have hk5 := back_conv _ _ c5 _ hC5
  obtain ⟨c6, w6, hc6, hd6, hz6, hb6, hC6⟩ := runes_conv (S) (by omega) w5
  have hk6 := back_conv _ _ c6 _ hC6
  have B6 := Aside0.mk (more_below (more_below B4.out hb5) hb6)
  clear hd5 hb5 hC5 hd6 hb6 hC6 hz5 hz6
  have hsame : ((runesBytes (runes (P.extract 0 30))).toList == (runesBytes (runes (S))).toList) = decide (runes (S) = runes (P.extract 0 30)) := by
    rw [Bool.eq_iff_iff, beq_iff_eq, decide_eq_true_eq]
    exact same_back _ _
  have HSame := Aside0.mk hsame
  clear hsame
  go_wp2_with fail
  go_ret
  refine ⟨?_, B6.out⟩
  show Ending.returned (.bool (decide (runes (S) = runes (P.extract 0 30)) == ((runesBytes (runes (P.extract 0 30))).toList == (runesBytes (runes (S))).toList))) = _
  rw [HSame.out]
  simp
set_option maxHeartbeats 4000000 in
set_option maxRecDepth 100000 in
theorem quotes_11 (P S : ByteArray) (hP : P.size ≤ 140737488351232) (hS : S.size ≤ 140737488351232) (hpz : ¬ P.size ≤ 30) (hsz : ¬ S.size ≤ 30) (w : World) :
    Calls Try.prog 5 #[.string P, .string S] w fun e w' => e = .returned (.bool true) ∧ Below w.heap.size w w' := by
  have HS := Aside0.mk plShown
  have h1 : (P.extract 0 30).size ≤ 30 := by rw [ByteArray.size_extract]; omega
  have h2 : (S.extract 0 30).size ≤ 30 := by rw [ByteArray.size_extract]; omega
  obtain ⟨Q, hQ⟩ : ∃ Q : ByteArray, Q = ⟨(qt (P.extract 0 30).data.toList).toArray⟩ := ⟨_, rfl⟩
  have HPl := Aside0.mk (show glob_Quote.f (P.extract 0 30) = some Q by unfold glob_Quote.f; rw [if_pos (by omega), hQ])
  have HM1 : Aside0 (glob_Match.f Q (P.extract 0 30) = some (true, 0)) := ⟨by rw [hQ, match_quoted _ _ h1 (by omega), decide_eq_true rfl]⟩
  have HM2 : Aside0 (glob_Match.f Q (S.extract 0 30) = some (decide (runes (S.extract 0 30) = runes (P.extract 0 30)), 0)) := ⟨by rw [hQ, match_quoted _ _ h1 (by omega)]⟩
  clear hQ
  go_enter Try.func5, Try.ntmps5
  go_wp2_with fail
  refine (paliolaw02_shown.calls _ _ HS.out).mono ?_
  rintro e w1 ⟨rfl, hb⟩
  go_wp2_with fail
  refine (glob_Quote.calls _ _ _ HPl.out).mono ?_
  rintro e w2 ⟨rfl, hb2⟩
  have B2 := Aside0.mk (more_below hb hb2)
  go_wp2_with fail
  refine (glob_Match.calls _ _ _ _ _ HM1.out).mono ?_
  rintro e w3 ⟨rfl, hb3⟩
  have B3 := Aside0.mk (more_below B2.out hb3)
  go_wp2_with fail
  refine (glob_Match.calls _ _ _ _ _ HM2.out).mono ?_
  rintro e w4 ⟨rfl, hb4⟩
  have B4 := Aside0.mk (more_below B3.out hb4)
  obtain ⟨c5, w5, hc5, hd5, hz5, hb5, hC5⟩ := runes_conv (P.extract 0 30) (by omega) w4
  have hk5 := back_conv _ _ c5 _ hC5
  obtain ⟨c6, w6, hc6, hd6, hz6, hb6, hC6⟩ := runes_conv (S.extract 0 30) (by omega) w5
  have hk6 := back_conv _ _ c6 _ hC6
  have B6 := Aside0.mk (more_below (more_below B4.out hb5) hb6)
  clear hd5 hb5 hC5 hd6 hb6 hC6 hz5 hz6
  have hsame : ((runesBytes (runes (P.extract 0 30))).toList == (runesBytes (runes (S.extract 0 30))).toList) = decide (runes (S.extract 0 30) = runes (P.extract 0 30)) := by
    rw [Bool.eq_iff_iff, beq_iff_eq, decide_eq_true_eq]
    exact same_back _ _
  have HSame := Aside0.mk hsame
  clear hsame
  go_wp2_with fail
  go_ret
  refine ⟨?_, B6.out⟩
  show Ending.returned (.bool (decide (runes (S.extract 0 30) = runes (P.extract 0 30)) == ((runesBytes (runes (P.extract 0 30))).toList == (runesBytes (runes (S.extract 0 30))).toList))) = _
  rw [HSame.out]
  simp
def paliolaw02_GlobQuotes.f (P S : ByteArray) : Option Bool := if P.size ≤ 140737488351232 ∧ S.size ≤ 140737488351232 then some true else none
theorem paliolaw02_GlobQuotes.calls (P S : ByteArray) (r : Bool) (w : World) (h : paliolaw02_GlobQuotes.f P S = some r) :
    Calls Try.prog 5 #[.string P, .string S] w fun e w' => e = .returned (.bool r) ∧ Below w.heap.size w w' := by
  unfold paliolaw02_GlobQuotes.f at h
  by_cases hs : P.size ≤ 140737488351232 ∧ S.size ≤ 140737488351232
  · rw [if_pos hs] at h
    obtain rfl := Option.some.inj h
    by_cases h1 : P.size ≤ 30 <;> by_cases h2 : S.size ≤ 30
    · exact quotes_00 P S hs.1 hs.2 h1 h2 w
    · exact quotes_01 P S hs.1 hs.2 h1 h2 w
    · exact quotes_10 P S hs.1 hs.2 h1 h2 w
    · exact quotes_11 P S hs.1 hs.2 h1 h2 w
  · rw [if_neg hs] at h
    cases h
end Go.Proofs.Ytmejbponpkkobaa.P
