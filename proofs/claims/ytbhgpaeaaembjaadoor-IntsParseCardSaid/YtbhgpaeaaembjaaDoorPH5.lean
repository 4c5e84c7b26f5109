/- The law IntsBack: a call of it answers true. Conditions: that the table of powers of ten lies as the program lays it. -/
import Derived.Test.YtbhgpaeaaembjaaDoorPH4
import Derived.Test.YtbhgpaeaaembjaaDoorPx1
namespace Go.Proofs.YtbhgpaeaaembjaaDoor.P
open Go.RowKit Go.Lib Go.Proofs.YtbhgpaeaaembjaaDoorW.PrintWords Go.Proofs.YtbhgpaeaaembjaaDoorW.PrintLast Go.Proofs.YtbhgpaeaaembjaaDoorW.PrintMore

theorem more_below {w W w1 : World} (h0 : Below w.heap.size w W) (h1 : Below W.heap.size W w1) : Below w.heap.size w w1 := below_weaken h0 h0.size h1
theorem parse_bd (s : ByteArray) (k f : Int) (h : ints_Parse.f s = some (k, f)) : -9223372036854775808 ≤ k ∧ k ≤ 9223372036854775807 := by
  have key : ∀ b rest, -9223372036854775808 ≤ (parseOf b rest).1 ∧ (parseOf b rest).1 ≤ 9223372036854775807 := by
    intro b rest
    unfold parseOf
    split
    · rename_i hd
      have hg := (digits_good _).1 hd
      rw [val_all _ hg]
      split
      · split
        · simp only; omega
        · simp only; omega
      · split
        · simp only; omega
        · simp only; omega
    · simp only; omega
  unfold ints_Parse.f at h
  split at h
  case isFalse => cases h
  injection h with h
  split at h
  · have := key true (s.extract 1 s.size)
    rw [h] at this
    exact this
  · have := key false s
    rw [h] at this
    exact this
theorem shown_true : paliolaw01_shown.f = some true := by decide +kernel
theorem cut_some (s : ByteArray) : ∃ c : ByteArray, paliolaw01_cut.f s = some c ∧ c.size ≤ 30 := by
  unfold paliolaw01_cut.f
  have h1 : ((mn (s.size : Int) 30) : Int).toNat ≤ 30 ∧ 0 ≤ mn (s.size : Int) 30 ∧ mn (s.size : Int) 30 ≤ (s.size : Int) := by unfold mn; split <;> omega
  rw [if_pos h1.2.1, if_pos h1.2.2]
  exact ⟨_, rfl, by rw [ByteArray.size_extract]; omega⟩
theorem parse_some (c : ByteArray) (h : c.size ≤ 30) : ∃ k f, ints_Parse.f c = some (k, f) := by
  unfold ints_Parse.f
  rw [if_pos (by omega)]
  exact ⟨_, _, rfl⟩
set_option maxHeartbeats 4000000 in
set_option maxRecDepth 100000 in
theorem back_calls (n : Int) (h0 : -9223372036854775808 ≤ n) (h1 : n ≤ 9223372036854775807) (s : ByteArray) (w : World) (ht : Tab w) :
    Calls Tryd.prog 4 #[.int .i64 n, .string s] w fun e w' => e = .returned (.bool true) ∧ Below w.heap.size w w' := by
  have HS := Aside0.mk shown_true
  obtain ⟨c, hcut, hcs⟩ := cut_some s
  obtain ⟨k, f, hpar⟩ := parse_some c hcs
  have HC := Aside0.mk hcut
  have HP := Aside0.mk hpar
  have HT := Aside0.mk ht
  have hkb := parse_bd c k f hpar
  have HPn := Aside0.mk (parse_text n h0 h1)
  have hlen := text_len n h0 h1
  clear hcut hpar ht
  go_enter Tryd.func4, Tryd.ntmps4
  go_wp2_with fail
  refine (paliolaw01_shown.calls _ _ HS.out).mono ?_
  rintro e w1 ⟨rfl, hb1⟩
  have T1 := Aside0.mk (HT.out.below hb1)
  go_wp2_with fail
  refine (format_calls n h0 h1 _ T1.out).mono ?_
  rintro e w2 ⟨rfl, hb2⟩
  have B2 := Aside0.mk (more_below hb1 hb2)
  go_wp2_with fail
  refine (ints_Parse.calls _ _ _ _ HPn.out).mono ?_
  rintro e w3 ⟨rfl, hb3⟩
  have B3 := Aside0.mk (more_below B2.out hb3)
  go_wp2_with fail
  refine (paliolaw01_cut.calls _ _ _ HC.out).mono ?_
  rintro e w4 ⟨rfl, hb4⟩
  have B4 := Aside0.mk (more_below B3.out hb4)
  go_wp2_with fail
  refine (ints_Parse.calls _ _ _ _ HP.out).mono ?_
  rintro e w5 ⟨rfl, hb5⟩
  have B5 := Aside0.mk (more_below B4.out hb5)
  have T5 := Aside0.mk (HT.out.below B5.out)
  by_cases hf : f = 0
  · subst hf
    have hback := text_parse c k HP.out
    go_wp2_with fail
    refine (format_calls k hkb.1 hkb.2 _ T5.out).mono ?_
    rintro e w6 ⟨rfl, hb6⟩
    rw [hback]
    have B6 := Aside0.mk (more_below B5.out hb6)
    clear hback
    go_wp2_with fail
    refine (paliolaw01_cut.calls _ _ _ HC.out).mono ?_
    rintro e w7 ⟨rfl, hb7⟩
    have B7 := Aside0.mk (more_below B6.out hb7)
    have T7 := Aside0.mk (HT.out.below B7.out)
    go_wp2_with fail
    refine (format_calls n h0 h1 _ T7.out).mono ?_
    rintro e w8 ⟨rfl, hb8⟩
    have B8 := Aside0.mk (more_below B7.out hb8)
    have hlz : ((textOf n).size : Int) ≤ 20 := by omega
    go_wp2
    go_ret
    exact ⟨rfl, B8.out⟩
  · have hfz : (f != 0) = true := by simpa using hf
    go_wp2_with fail
    refine (format_calls n h0 h1 _ T5.out).mono ?_
    rintro e w8 ⟨rfl, hb8⟩
    have B8 := Aside0.mk (more_below B5.out hb8)
    have hlz : ((textOf n).size : Int) ≤ 20 := by omega
    go_wp2
    go_ret
    exact ⟨rfl, B8.out⟩
theorem wf_lo {n : Int} (h : (Lit.int .i64 n).wf = true) : -9223372036854775808 ≤ n := by
  have h1 : IntKind.i64.min = -9223372036854775808 := rfl
  simp only [Lit.wf, Bool.and_eq_true, decide_eq_true_eq] at h
  omega
theorem wf_hi {n : Int} (h : (Lit.int .i64 n).wf = true) : n ≤ 9223372036854775807 := by
  have h2 : IntKind.i64.max = 9223372036854775807 := rfl
  simp only [Lit.wf, Bool.and_eq_true, decide_eq_true_eq] at h
  omega
end Go.Proofs.YtbhgpaeaaembjaaDoor.P
