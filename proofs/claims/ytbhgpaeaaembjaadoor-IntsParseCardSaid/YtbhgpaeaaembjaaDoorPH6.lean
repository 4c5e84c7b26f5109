/- The law IntsParse: a call of it answers true. Conditions: that the table of powers of ten lies as the program lays it. -/
import Derived.Test.YtbhgpaeaaembjaaDoorPureRef
namespace Go.Proofs.YtbhgpaeaaembjaaDoor.P
open Go.RowKit Go.Lib Go.Proofs.YtbhgpaeaaembjaaDoorW.PrintWords Go.Proofs.YtbhgpaeaaembjaaDoorW.PrintLast Go.Proofs.YtbhgpaeaaembjaaDoorW.PrintMore Go.Proofs.YtbhgpaeaaembjaaDoor.Q

set_option maxHeartbeats 4000000 in
set_option maxRecDepth 100000 in
theorem parse_law (n : Int) (h0 : -9223372036854775808 ≤ n) (h1 : n ≤ 9223372036854775807) (s : ByteArray) (w : World) (ht : Tab w) :
    Calls Tryd.prog 3 #[.int .i64 n, .string s] w fun e w' => e = .returned (.bool true) ∧ Below w.heap.size w w' := by
  have HS := Aside0.mk shown_true
  obtain ⟨c, hcut, hcs⟩ := cut_some s
  obtain ⟨k, f, hpar⟩ := parse_some c hcs
  have HR := Aside0.mk (parse_same c hcs (k, f) hpar)
  have HC := Aside0.mk hcut
  have HP := Aside0.mk hpar
  have HT := Aside0.mk ht
  have HF := Aside0.mk (fmt_21 n h0 h1)
  clear hcut hpar ht
  go_enter Tryd.func3, Tryd.ntmps3
  go_wp2_with fail
  refine (paliolaw01_shown.calls _ _ HS.out).mono ?_
  rintro e w1 ⟨rfl, hb1⟩
  go_wp2_with fail
  refine (paliolaw01_cut.calls _ _ _ HC.out).mono ?_
  rintro e w2 ⟨rfl, hb2⟩
  have B2 := Aside0.mk (more_below hb1 hb2)
  go_wp2_with fail
  refine (ints_Parse.calls _ _ _ _ HP.out).mono ?_
  rintro e w3 ⟨rfl, hb3⟩
  have B3 := Aside0.mk (more_below B2.out hb3)
  go_wp2_with fail
  refine (paliolaw01_cut.calls _ _ _ HC.out).mono ?_
  rintro e w4 ⟨rfl, hb4⟩
  have B4 := Aside0.mk (more_below B3.out hb4)
  go_wp2_with fail
  refine (palioref01_Parse.calls _ _ _ _ _ HR.out).mono ?_
  rintro e w5 ⟨rfl, hb5⟩
  have B5 := Aside0.mk (more_below B4.out hb5)
  have T5 := Aside0.mk (HT.out.below B5.out)
  go_wp2_with fail
  refine (format_calls n h0 h1 _ T5.out).mono ?_
  rintro e w6 ⟨rfl, hb6⟩
  have B6 := Aside0.mk (more_below B5.out hb6)
  go_wp2_with fail
  refine (palioref01_Format.calls _ _ _ _ HF.out).mono ?_
  rintro e w7 ⟨rfl, hb7⟩
  have B7 := Aside0.mk (more_below B6.out hb7)
  go_wp2
  go_ret
  exact ⟨by simp, B7.out⟩
end Go.Proofs.YtbhgpaeaaembjaaDoor.P
