/- The law GlobPlainly: a call of it answers true. Conditions: that the texts are no longer than any machine's. -/
import Derived.Test.YtmejbponpkkobaaPx4
import Derived.Test.YtmejbponpkkobaaPurePlain
import Derived.Test.YtmejbponpkkobaaPureEnc
namespace Go.Proofs.Ytmejbponpkkobaa.P
open Go.RowKit Go.Proofs.YtmejbponpkkobaaW.PrintWords Go.Proofs.YtmejbponpkkobaaW.PrintLast Go.Proofs.YtmejbponpkkobaaW.PrintMore
attribute [local go_sem] max2_int min2_int max_two min_two max_three min_three max_four min_four   -- for this text's walks alone

theorem plShown : paliolaw02_shown.f = some true := by
  unfold paliolaw02_shown.f
  rw [shown1, shown2, shown3, shown4]
  rfl
theorem back_conv (a : Addr) (L : List Int) (c : Nat) (w : World) (hC : Kd.C (Kd.int .i32) w (some a) L.length L) : (convert 31 9 (.slice (some a) L.length c)).run Try.prog w = .ok (.string (runesBytes L)) w := by
  have h := run_convert_runes (P := Try.prog) w 31 9 21 a L.length c L (Nat.le_refl _) Try.underlying31 Try.underlying21 Try.underlying9 (fun j hj => by
    obtain ⟨ad, e, hc⟩ := Kd.at_int hC (j : Int) (by omega) (by omega)
    injection e with e
    subst e
    simpa [rd] using hc)
  rw [List.take_of_length_le (Nat.le_refl _)] at h
  exact h
theorem same_back (p s : ByteArray) : ((runesBytes (runes p)).toList = (runesBytes (runes s)).toList) ↔ runes s = runes p := by
  rw [ByteArray.toList_eq, ByteArray.toList_eq, runes_bytes, runes_bytes, runes_rL, runes_rL]
  have := wr_inj p.data.toList s.data.toList
  unfold wr at this
  rw [this]
  exact eq_comm
set_option maxHeartbeats 4000000 in
set_option maxRecDepth 100000 in
theorem plainly_00 (P S : ByteArray) (hP : P.size ≤ 140737488351232) (hS : S.size ≤ 140737488351232) (hpz : P.size ≤ 60) (hsz : S.size ≤ 60) (w : World) :
    Calls Try.prog 7 #[.string P, .string S] w fun e w' => e = .returned (.bool true) ∧ Below w.heap.size w w' := by
  have HS := Aside0.mk plShown
  have h1 : (P).size ≤ 60 := by exact hpz
  have h2 : (S).size ≤ 60 := by exact hsz
  have HPl := Aside0.mk (show glob_Plain.f (P) = some (!(P).data.toList.any signB) by unfold glob_Plain.f; rw [if_pos (by omega)])
  go_enter Try.func7, Try.ntmps7
  go_wp2_with fail
  refine (paliolaw02_shown.calls _ _ HS.out).mono ?_
  rintro e w1 ⟨rfl, hb⟩
  go_wp2_with fail
  refine (glob_Plain.calls _ _ _ HPl.out).mono ?_
  rintro e w2 ⟨rfl, hb2⟩
  have B2 := Aside0.mk (more_below hb hb2)
  cases hsg : (P).data.toList.any signB with
  | true =>
    go_wp2
    go_ret
    exact ⟨rfl, B2.out⟩
  | false =>
    have HM1 := Aside0.mk (match_just (P) (S) h1 (by omega) hsg)
    have HM2 : Aside0 (glob_Match.f (P) (P) = some (true, 0)) := ⟨by rw [match_just _ _ h1 (by omega) hsg, decide_eq_true rfl]⟩
    clear hsg
    go_wp2_with fail
    refine (glob_Match.calls _ _ _ _ _ HM1.out).mono ?_
    rintro e w3 ⟨rfl, hb3⟩
    have B3 := Aside0.mk (more_below B2.out hb3)
    go_wp2_with fail
    refine (glob_Match.calls _ _ _ _ _ HM2.out).mono ?_
    rintro e w4 ⟨rfl, hb4⟩
    have B4 := Aside0.mk (more_below B3.out hb4)
    obtain ⟨c5, w5, hc5, hd5, hz5, hb5, hC5⟩ := runes_conv (P) (by omega) w4
    have hk5 := back_conv _ _ c5 _ hC5
    obtain ⟨c6, w6, hc6, hd6, hz6, hb6, hC6⟩ := runes_conv (S) (by omega) w5
    have hk6 := back_conv _ _ c6 _ hC6
    have B6 := Aside0.mk (more_below (more_below B4.out hb5) hb6)
    clear hd5 hb5 hC5 hd6 hb6 hC6 hz5 hz6
    have hsame : ((runesBytes (runes (P))).toList == (runesBytes (runes (S))).toList) = decide (runes (S) = runes (P)) := by
      rw [Bool.eq_iff_iff, beq_iff_eq, decide_eq_true_eq]
      exact same_back _ _
    have HSame := Aside0.mk hsame
    clear hsame
    go_wp2_with fail
    go_ret
    refine ⟨?_, B6.out⟩
    show Ending.returned (.bool (decide (runes (S) = runes (P)) == ((runesBytes (runes (P))).toList == (runesBytes (runes (S))).toList))) = _
    rw [HSame.out]
    simp
set_option maxHeartbeats 4000000 in
set_option maxRecDepth 100000 in
theorem plainly_01 (P S : ByteArray) (hP : P.size ≤ 140737488351232) (hS : S.size ≤ 140737488351232) (hpz : P.size ≤ 60) (hsz : ¬ S.size ≤ 60) (w : World) :
    Calls Try.prog 7 #[.string P, .string S] w fun e w' => e = .returned (.bool true) ∧ Below w.heap.size w w' := by
  have HS := Aside0.mk plShown
  have h1 : (P).size ≤ 60 := by exact hpz
  have h2 : (S.extract 0 60).size ≤ 60 := by rw [ByteArray.size_extract]; omega
  have HPl := Aside0.mk (show glob_Plain.f (P) = some (!(P).data.toList.any signB) by unfold glob_Plain.f; rw [if_pos (by omega)])
  go_enter Try.func7, Try.ntmps7
  go_wp2_with fail
  refine (paliolaw02_shown.calls _ _ HS.out).mono ?_
  rintro e w1 ⟨rfl, hb⟩
  go_wp2_with fail
  refine (glob_Plain.calls _ _ _ HPl.out).mono ?_
  rintro e w2 ⟨rfl, hb2⟩
  have B2 := Aside0.mk (more_below hb hb2)
  cases hsg : (P).data.toList.any signB with
  | true =>
    go_wp2
    go_ret
    exact ⟨rfl, B2.out⟩
  | false =>
    have HM1 := Aside0.mk (match_just (P) (S.extract 0 60) h1 (by omega) hsg)
    have HM2 : Aside0 (glob_Match.f (P) (P) = some (true, 0)) := ⟨by rw [match_just _ _ h1 (by omega) hsg, decide_eq_true rfl]⟩
    clear hsg
    go_wp2_with fail
    refine (glob_Match.calls _ _ _ _ _ HM1.out).mono ?_
    rintro e w3 ⟨rfl, hb3⟩
    have B3 := Aside0.mk (more_below B2.out hb3)
    go_wp2_with fail
    refine (glob_Match.calls _ _ _ _ _ HM2.out).mono ?_
    rintro e w4 ⟨rfl, hb4⟩
    have B4 := Aside0.mk (more_below B3.out hb4)
    obtain ⟨c5, w5, hc5, hd5, hz5, hb5, hC5⟩ := runes_conv (P) (by omega) w4
    have hk5 := back_conv _ _ c5 _ hC5
    obtain ⟨c6, w6, hc6, hd6, hz6, hb6, hC6⟩ := runes_conv (S.extract 0 60) (by omega) w5
    have hk6 := back_conv _ _ c6 _ hC6
    have B6 := Aside0.mk (more_below (more_below B4.out hb5) hb6)
    clear hd5 hb5 hC5 hd6 hb6 hC6 hz5 hz6
    have hsame : ((runesBytes (runes (P))).toList == (runesBytes (runes (S.extract 0 60))).toList) = decide (runes (S.extract 0 60) = runes (P)) := by
      rw [Bool.eq_iff_iff, beq_iff_eq, decide_eq_true_eq]
      exact same_back _ _
    have HSame := Aside0.mk hsame
    clear hsame
    go_wp2_with fail
    go_ret
    refine ⟨?_, B6.out⟩
    show Ending.returned (.bool (decide (runes (S.extract 0 60) = runes (P)) == ((runesBytes (runes (P))).toList == (runesBytes (runes (S.extract 0 60))).toList))) = _
    rw [HSame.out]
    simp
set_option maxHeartbeats 4000000 in
set_option maxRecDepth 100000 in
theorem plainly_10 (P S : ByteArray) (hP : P.size ≤ 140737488351232) (hS : S.size ≤ 140737488351232) (hpz : ¬ P.size ≤ 60) (hsz : S.size ≤ 60) (w : World) :
    Calls Try.prog 7 #[.string P, .string S] w fun e w' => e = .returned (.bool true) ∧ Below w.heap.size w w' := by
  have HS := Aside0.mk plShown
  have h1 : (P.extract 0 60).size ≤ 60 := by rw [ByteArray.size_extract]; omega
  have h2 : (S).size ≤ 60 := by exact hsz
  have HPl := Aside0.mk (show glob_Plain.f (P.extract 0 60) = some (!(P.extract 0 60).data.toList.any signB) by unfold glob_Plain.f; rw [if_pos (by omega)])
  go_enter Try.func7, Try.ntmps7
  go_wp2_with fail
  refine (paliolaw02_shown.calls _ _ HS.out).mono ?_
  rintro e w1 ⟨rfl, hb⟩
  go_wp2_with fail
  refine (glob_Plain.calls _ _ _ HPl.out).mono ?_
  rintro e w2 ⟨rfl, hb2⟩
  have B2 := Aside0.mk (more_below hb hb2)
  cases hsg : (P.extract 0 60).data.toList.any signB with
  | true =>
    go_wp2
    go_ret
    exact ⟨rfl, B2.out⟩
  | false =>
    have HM1 := Aside0.mk (match_just (P.extract 0 60) (S) h1 (by omega) hsg)
    have HM2 : Aside0 (glob_Match.f (P.extract 0 60) (P.extract 0 60) = some (true, 0)) := ⟨by rw [match_just _ _ h1 (by omega) hsg, decide_eq_true rfl]⟩
    clear hsg
    go_wp2_with fail
    refine (glob_Match.calls _ _ _ _ _ HM1.out).mono ?_
    rintro e w3 ⟨rfl, hb3⟩
    have B3 := Aside0.mk (more_below B2.out hb3)
    go_wp2_with fail
    refine (glob_Match.calls _ _ _ _ _ HM2.out).mono ?_
    rintro e w4 ⟨rfl, hb4⟩
    have B4 := Aside0.mk (more_below B3.out hb4)
    obtain ⟨c5, w5, hc5, hd5, hz5, hb5, hC5⟩ := runes_conv (P.extract 0 60) (by omega) w4
    have hk5 := back_conv _ _ c5 _ hC5
    obtain ⟨c6, w6, hc6, hd6, hz6, hb6, hC6⟩ := runes_conv (S) (by omega) w5
    have hk6 := back_conv _ _ c6 _ hC6
    have B6 := Aside0.mk (more_below (more_below B4.out hb5) hb6)
    clear hd5 hb5 hC5 hd6 hb6 hC6 hz5 hz6
    have hsame : ((runesBytes (runes (P.extract 0 60))).toList == (runesBytes (runes (S))).toList) = decide (runes (S) = runes (P.extract 0 60)) := by
      rw [Bool.eq_iff_iff, beq_iff_eq, decide_eq_true_eq]
      exact same_back _ _
    have HSame := Aside0.mk hsame
    clear hsame
    go_wp2_with fail
    go_ret
    refine ⟨?_, B6.out⟩
    show Ending.returned (.bool (decide (runes (S) = runes (P.extract 0 60)) == ((runesBytes (runes (P.extract 0 60))).toList == (runesBytes (runes (S))).toList))) = _
    rw [HSame.out]
    simp
set_option maxHeartbeats 4000000 in
set_option maxRecDepth 100000 in
theorem plainly_11 (P S : ByteArray) (hP : P.size ≤ 140737488351232) (hS : S.size ≤ 140737488351232) (hpz : ¬ P.size ≤ 60) (hsz : ¬ S.size ≤ 60) (w : World) :
    Calls Try.prog 7 #[.string P, .string S] w fun e w' => e = .returned (.bool true) ∧ Below w.heap.size w w' := by
  have HS := Aside0.mk plShown
  have h1 : (P.extract 0 60).size ≤ 60 := by rw [ByteArray.size_extract]; omega
  have h2 : (S.extract 0 60).size ≤ 60 := by rw [ByteArray.size_extract]; omega
  have HPl := Aside0.mk (show glob_Plain.f (P.extract 0 60) = some (!(P.extract 0 60).data.toList.any signB) by unfold glob_Plain.f; rw [if_pos (by omega)])
  go_enter Try.func7, Try.ntmps7
  go_wp2_with fail
  refine (paliolaw02_shown.calls _ _ HS.out).mono ?_
  rintro e w1 ⟨rfl, hb⟩
  go_wp2_with fail
  refine (glob_Plain.calls _ _ _ HPl.out).mono ?_
  rintro e w2 ⟨rfl, hb2⟩
  have B2 := Aside0.mk (more_below hb hb2)
  cases hsg : (P.extract 0 60).data.toList.any signB with
  | true =>
    go_wp2
    go_ret
    exact ⟨rfl, B2.out⟩
  | false =>
    have HM1 := Aside0.mk (match_just (P.extract 0 60) (S.extract 0 60) h1 (by omega) hsg)
    have HM2 : Aside0 (glob_Match.f (P.extract 0 60) (P.extract 0 60) = some (true, 0)) := ⟨by rw [match_just _ _ h1 (by omega) hsg, decide_eq_true rfl]⟩
    clear hsg
    go_wp2_with fail
    refine (glob_Match.calls _ _ _ _ _ HM1.out).mono ?_
    rintro e w3 ⟨rfl, hb3⟩
    have B3 := Aside0.mk (more_below B2.out hb3)
    go_wp2_with fail
    refine (glob_Match.calls _ _ _ _ _ HM2.out).mono ?_
    rintro e w4 ⟨rfl, hb4⟩
    have B4 := Aside0.mk (more_below B3.out hb4)
    obtain ⟨c5, w5, hc5, hd5, hz5, hb5, hC5⟩ := runes_conv (P.extract 0 60) (by omega) w4
    have hk5 := back_conv _ _ c5 _ hC5
    obtain ⟨c6, w6, hc6, hd6, hz6, hb6, hC6⟩ := runes_conv (S.extract 0 60) (by omega) w5
    have hk6 := back_conv _ _ c6 _ hC6
    have B6 := Aside0.mk (more_below (more_below B4.out hb5) hb6)
    clear hd5 hb5 hC5 hd6 hb6 hC6 hz5 hz6
    have hsame : ((runesBytes (runes (P.extract 0 60))).toList == (runesBytes (runes (S.extract 0 60))).toList) = decide (runes (S.extract 0 60) = runes (P.extract 0 60)) := by
      rw [Bool.eq_iff_iff, beq_iff_eq, decide_eq_true_eq]
      exact same_back _ _
    have HSame := Aside0.mk hsame
    clear hsame
    go_wp2_with fail
    go_ret
    refine ⟨?_, B6.out⟩
    show Ending.returned (.bool (decide (runes (S.extract 0 60) = runes (P.extract 0 60)) == ((runesBytes (runes (P.extract 0 60))).toList == (runesBytes (runes (S.extract 0 60))).toList))) = _
    rw [HSame.out]
    simp
def paliolaw02_GlobPlainly.f (P S : ByteArray) : Option Bool := if P.size ≤ 140737488351232 ∧ S.size ≤ 140737488351232 then some true else none
theorem paliolaw02_GlobPlainly.calls (P S : ByteArray) (r : Bool) (w : World) (h : paliolaw02_GlobPlainly.f P S = some r) :
    Calls Try.prog 7 #[.string P, .string S] w fun e w' => e = .returned (.bool r) ∧ Below w.heap.size w w' := by
  unfold paliolaw02_GlobPlainly.f at h
  by_cases hs : P.size ≤ 140737488351232 ∧ S.size ≤ 140737488351232
  · rw [if_pos hs] at h
    obtain rfl := Option.some.inj h
    by_cases h1 : P.size ≤ 60 <;> by_cases h2 : S.size ≤ 60
    · exact plainly_00 P S hs.1 hs.2 h1 h2 w
    · exact plainly_01 P S hs.1 hs.2 h1 h2 w
    · exact plainly_10 P S hs.1 hs.2 h1 h2 w
    · exact plainly_11 P S hs.1 hs.2 h1 h2 w
  · rw [if_neg hs] at h
    cases h
end Go.Proofs.Ytmejbponpkkobaa.P
