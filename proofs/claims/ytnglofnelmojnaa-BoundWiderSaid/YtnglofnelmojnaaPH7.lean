/- The law 'BoundWider': a call of it answers true. Conditions: each theorem names its own. -/
import Derived.Test.YtnglofnelmojnaaPx5
import Derived.Test.YtnglofnelmojnaaPx7
import Derived.Test.YtnglofnelmojnaaPH1
import Derived.Lib.Hide
namespace Go.Proofs.Ytnglofnelmojnaa.P
open Go.RowKit Go.Proofs.YtnglofnelmojnaaW.PrintWords Go.Proofs.YtnglofnelmojnaaW.PrintLast Go.Proofs.YtnglofnelmojnaaW.PrintMore

/-- One world after the other, each one laid on top of the one before it. -/
theorem more_below {w W w1 : World} (h0 : Below w.heap.size w W) (h1 : Below W.heap.size W w1) : Below w.heap.size w w1 := below_weaken h0 h0.size h1
set_option maxHeartbeats 8000000 in
set_option maxRecDepth 100000 in
theorem wider_out (n N I M J K L : Int) (O U V : Bool) (hsh : paliolaw09_shown.f = some true) (hx : bound_In.f n N O I M U J = some false) (w : World) :
    Calls Try.prog 4 #[.int .i64 n, .agg #[.int .i64 N, .bool O, .int .i64 I], .agg #[.int .i64 M, .bool U, .int .i64 J], .agg #[.int .i64 K, .bool V, .int .i64 L]] w fun e w' => e = .returned (.bool true) ∧ Below w.heap.size w w' := by
  have HS := Lib.hid hsh
  have HX := Lib.hid hx
  clear hsh hx
  go_enter Try.func4, Try.ntmps4
  go_wp2_with fail
  refine (paliolaw09_shown.calls _ _ HS.out).mono ?_
  rintro e' w1 ⟨rfl, hb⟩
  obtain ⟨hc, hf⟩ := bcell hb
  have hz : w.heap.size < w1.heap.size := by have := hb.size; simp at this; omega
  have hz1 : w.heap.size + 1 < w1.heap.size := by have := hb.size; simp at this; omega
  have hz2 : w.heap.size + 1 + 1 < w1.heap.size := by have := hb.size; simp at this; omega
  have t1 := more_below (below_alloc (below_alloc (below_alloc (Below.refl _ _) _) _) _) hb
  go_wp2_with fail
  refine (bound_In.calls _ _ _ _ _ _ _ _ _ HX.out).mono ?_
  rintro e' w2 ⟨rfl, hb2⟩
  have t2 := more_below t1 hb2
  go_wp2
  go_ret
  exact ⟨rfl, t2⟩
set_option maxHeartbeats 8000000 in
set_option maxRecDepth 100000 in
theorem wider_to (n N I M J K L : Int) (O U V : Bool) (hsh : paliolaw09_shown.f = some true) (hx : bound_In.f n N O I M U J = some true) (ha : bound_In.f n N false I M U J = some true) (hb' : bound_In.f n 0 false (-1) M U J = some true) (hc' : bound_In.f n N O I 0 false 1 = some true) (_hJ : (J != 0) = true) (w : World) :
    Calls Try.prog 4 #[.int .i64 n, .agg #[.int .i64 N, .bool O, .int .i64 I], .agg #[.int .i64 M, .bool U, .int .i64 J], .agg #[.int .i64 K, .bool V, .int .i64 L]] w fun e w' => e = .returned (.bool true) ∧ Below w.heap.size w w' := by
  have HS := Lib.hid hsh
  have HX := Lib.hid hx
  have HA := Lib.hid ha
  have HB := Lib.hid hb'
  have HC := Lib.hid hc'
  clear hsh hx ha hb' hc'
  go_enter Try.func4, Try.ntmps4
  go_wp2_with fail
  refine (paliolaw09_shown.calls _ _ HS.out).mono ?_
  rintro e' w1 ⟨rfl, hb⟩
  obtain ⟨hc, hf⟩ := bcell hb
  have hz : w.heap.size < w1.heap.size := by have := hb.size; simp at this; omega
  have hz1 : w.heap.size + 1 < w1.heap.size := by have := hb.size; simp at this; omega
  have hz2 : w.heap.size + 1 + 1 < w1.heap.size := by have := hb.size; simp at this; omega
  have t1 := more_below (below_alloc (below_alloc (below_alloc (Below.refl _ _) _) _) _) hb
  go_wp2_with fail
  refine (bound_In.calls _ _ _ _ _ _ _ _ _ HX.out).mono ?_
  rintro e' w2 ⟨rfl, hb2⟩
  have t2 := more_below t1 hb2
  obtain ⟨hc2, hf2⟩ := bcell hb2
  have hy2_0 : w.heap.size  < w2.heap.size := by have := hb2.size; (try simp at this); omega
  have hy2_1 : w.heap.size + 1 < w2.heap.size := by have := hb2.size; (try simp at this); omega
  have hy2_2 : w.heap.size + 1 + 1 < w2.heap.size := by have := hb2.size; (try simp at this); omega
  go_wp2_with fail
  refine (bound_In.calls _ _ _ _ _ _ _ _ _ HA.out).mono ?_
  rintro e' w3 ⟨rfl, hb3⟩
  have t3 := more_below (below_alloc t2 _) hb3
  obtain ⟨hc3, hf3⟩ := bcell hb3
  have hy3_0 : w.heap.size  < w3.heap.size := by have := hb3.size; (try simp at this); omega
  have hy3_1 : w.heap.size + 1 < w3.heap.size := by have := hb3.size; (try simp at this); omega
  have hy3_2 : w.heap.size + 1 + 1 < w3.heap.size := by have := hb3.size; (try simp at this); omega
  go_wp2_with fail
  refine (bound_In.calls _ _ _ _ _ _ _ _ _ HB.out).mono ?_
  rintro e' w4 ⟨rfl, hb4⟩
  have t4 := more_below t3 hb4
  obtain ⟨hc4, hf4⟩ := bcell hb4
  have hy4_0 : w.heap.size  < w4.heap.size := by have := hb4.size; (try simp at this); omega
  have hy4_1 : w.heap.size + 1 < w4.heap.size := by have := hb4.size; (try simp at this); omega
  have hy4_2 : w.heap.size + 1 + 1 < w4.heap.size := by have := hb4.size; (try simp at this); omega
  go_wp2_with fail
  refine (bound_In.calls _ _ _ _ _ _ _ _ _ HC.out).mono ?_
  rintro e' w5 ⟨rfl, hb5⟩
  have t5 := more_below t4 hb5
  obtain ⟨hc5, hf5⟩ := bcell hb5
  have hy5_0 : w.heap.size  < w5.heap.size := by have := hb5.size; (try simp at this); omega
  have hy5_1 : w.heap.size + 1 < w5.heap.size := by have := hb5.size; (try simp at this); omega
  have hy5_2 : w.heap.size + 1 + 1 < w5.heap.size := by have := hb5.size; (try simp at this); omega
  go_wp2
  go_ret
  exact ⟨rfl, t5⟩
set_option maxHeartbeats 8000000 in
set_option maxRecDepth 100000 in
theorem wider_other (n N I M J K L : Int) (O U V : Bool) (hsh : paliolaw09_shown.f = some true) (hx : bound_In.f n N O I M U J = some true) (ha : bound_In.f n N false I M U J = some true) (hb' : bound_In.f n 0 false (-1) M U J = some true) (hc' : bound_In.f n N O I 0 false 1 = some true) (_hJ : (J != 0) = false) (_hL : (L != 0) = true) (w : World) :
    Calls Try.prog 4 #[.int .i64 n, .agg #[.int .i64 N, .bool O, .int .i64 I], .agg #[.int .i64 M, .bool U, .int .i64 J], .agg #[.int .i64 K, .bool V, .int .i64 L]] w fun e w' => e = .returned (.bool true) ∧ Below w.heap.size w w' := by
  have HS := Lib.hid hsh
  have HX := Lib.hid hx
  have HA := Lib.hid ha
  have HB := Lib.hid hb'
  have HC := Lib.hid hc'
  clear hsh hx ha hb' hc'
  go_enter Try.func4, Try.ntmps4
  go_wp2_with fail
  refine (paliolaw09_shown.calls _ _ HS.out).mono ?_
  rintro e' w1 ⟨rfl, hb⟩
  obtain ⟨hc, hf⟩ := bcell hb
  have hz : w.heap.size < w1.heap.size := by have := hb.size; simp at this; omega
  have hz1 : w.heap.size + 1 < w1.heap.size := by have := hb.size; simp at this; omega
  have hz2 : w.heap.size + 1 + 1 < w1.heap.size := by have := hb.size; simp at this; omega
  have t1 := more_below (below_alloc (below_alloc (below_alloc (Below.refl _ _) _) _) _) hb
  go_wp2_with fail
  refine (bound_In.calls _ _ _ _ _ _ _ _ _ HX.out).mono ?_
  rintro e' w2 ⟨rfl, hb2⟩
  have t2 := more_below t1 hb2
  obtain ⟨hc2, hf2⟩ := bcell hb2
  have hy2_0 : w.heap.size  < w2.heap.size := by have := hb2.size; (try simp at this); omega
  have hy2_1 : w.heap.size + 1 < w2.heap.size := by have := hb2.size; (try simp at this); omega
  have hy2_2 : w.heap.size + 1 + 1 < w2.heap.size := by have := hb2.size; (try simp at this); omega
  go_wp2_with fail
  refine (bound_In.calls _ _ _ _ _ _ _ _ _ HA.out).mono ?_
  rintro e' w3 ⟨rfl, hb3⟩
  have t3 := more_below (below_alloc t2 _) hb3
  obtain ⟨hc3, hf3⟩ := bcell hb3
  have hy3_0 : w.heap.size  < w3.heap.size := by have := hb3.size; (try simp at this); omega
  have hy3_1 : w.heap.size + 1 < w3.heap.size := by have := hb3.size; (try simp at this); omega
  have hy3_2 : w.heap.size + 1 + 1 < w3.heap.size := by have := hb3.size; (try simp at this); omega
  go_wp2_with fail
  refine (bound_In.calls _ _ _ _ _ _ _ _ _ HB.out).mono ?_
  rintro e' w4 ⟨rfl, hb4⟩
  have t4 := more_below t3 hb4
  obtain ⟨hc4, hf4⟩ := bcell hb4
  have hy4_0 : w.heap.size  < w4.heap.size := by have := hb4.size; (try simp at this); omega
  have hy4_1 : w.heap.size + 1 < w4.heap.size := by have := hb4.size; (try simp at this); omega
  have hy4_2 : w.heap.size + 1 + 1 < w4.heap.size := by have := hb4.size; (try simp at this); omega
  go_wp2_with fail
  refine (bound_In.calls _ _ _ _ _ _ _ _ _ HC.out).mono ?_
  rintro e' w5 ⟨rfl, hb5⟩
  have t5 := more_below t4 hb5
  obtain ⟨hc5, hf5⟩ := bcell hb5
  have hy5_0 : w.heap.size  < w5.heap.size := by have := hb5.size; (try simp at this); omega
  have hy5_1 : w.heap.size + 1 < w5.heap.size := by have := hb5.size; (try simp at this); omega
  have hy5_2 : w.heap.size + 1 + 1 < w5.heap.size := by have := hb5.size; (try simp at this); omega
  go_wp2
  go_ret
  exact ⟨rfl, t5⟩
set_option maxHeartbeats 8000000 in
set_option maxRecDepth 100000 in
theorem wider_less (n N I M J K L : Int) (O U V : Bool) (hsh : paliolaw09_shown.f = some true) (hx : bound_In.f n N O I M U J = some true) (ha : bound_In.f n N false I M U J = some true) (hb' : bound_In.f n 0 false (-1) M U J = some true) (hc' : bound_In.f n N O I 0 false 1 = some true) (_hJ : (J != 0) = false) (_hL : (L != 0) = false) (_hK : K ≤ M) (_hK2 : decide (K ≤ M) = true) (w : World) :
    Calls Try.prog 4 #[.int .i64 n, .agg #[.int .i64 N, .bool O, .int .i64 I], .agg #[.int .i64 M, .bool U, .int .i64 J], .agg #[.int .i64 K, .bool V, .int .i64 L]] w fun e w' => e = .returned (.bool true) ∧ Below w.heap.size w w' := by
  have HS := Lib.hid hsh
  have HX := Lib.hid hx
  have HA := Lib.hid ha
  have HB := Lib.hid hb'
  have HC := Lib.hid hc'
  clear hsh hx ha hb' hc'
  go_enter Try.func4, Try.ntmps4
  go_wp2_with fail
  refine (paliolaw09_shown.calls _ _ HS.out).mono ?_
  rintro e' w1 ⟨rfl, hb⟩
  obtain ⟨hc, hf⟩ := bcell hb
  have hz : w.heap.size < w1.heap.size := by have := hb.size; simp at this; omega
  have hz1 : w.heap.size + 1 < w1.heap.size := by have := hb.size; simp at this; omega
  have hz2 : w.heap.size + 1 + 1 < w1.heap.size := by have := hb.size; simp at this; omega
  have t1 := more_below (below_alloc (below_alloc (below_alloc (Below.refl _ _) _) _) _) hb
  go_wp2_with fail
  refine (bound_In.calls _ _ _ _ _ _ _ _ _ HX.out).mono ?_
  rintro e' w2 ⟨rfl, hb2⟩
  have t2 := more_below t1 hb2
  obtain ⟨hc2, hf2⟩ := bcell hb2
  have hy2_0 : w.heap.size  < w2.heap.size := by have := hb2.size; (try simp at this); omega
  have hy2_1 : w.heap.size + 1 < w2.heap.size := by have := hb2.size; (try simp at this); omega
  have hy2_2 : w.heap.size + 1 + 1 < w2.heap.size := by have := hb2.size; (try simp at this); omega
  go_wp2_with fail
  refine (bound_In.calls _ _ _ _ _ _ _ _ _ HA.out).mono ?_
  rintro e' w3 ⟨rfl, hb3⟩
  have t3 := more_below (below_alloc t2 _) hb3
  obtain ⟨hc3, hf3⟩ := bcell hb3
  have hy3_0 : w.heap.size  < w3.heap.size := by have := hb3.size; (try simp at this); omega
  have hy3_1 : w.heap.size + 1 < w3.heap.size := by have := hb3.size; (try simp at this); omega
  have hy3_2 : w.heap.size + 1 + 1 < w3.heap.size := by have := hb3.size; (try simp at this); omega
  go_wp2_with fail
  refine (bound_In.calls _ _ _ _ _ _ _ _ _ HB.out).mono ?_
  rintro e' w4 ⟨rfl, hb4⟩
  have t4 := more_below t3 hb4
  obtain ⟨hc4, hf4⟩ := bcell hb4
  have hy4_0 : w.heap.size  < w4.heap.size := by have := hb4.size; (try simp at this); omega
  have hy4_1 : w.heap.size + 1 < w4.heap.size := by have := hb4.size; (try simp at this); omega
  have hy4_2 : w.heap.size + 1 + 1 < w4.heap.size := by have := hb4.size; (try simp at this); omega
  go_wp2_with fail
  refine (bound_In.calls _ _ _ _ _ _ _ _ _ HC.out).mono ?_
  rintro e' w5 ⟨rfl, hb5⟩
  have t5 := more_below t4 hb5
  obtain ⟨hc5, hf5⟩ := bcell hb5
  have hy5_0 : w.heap.size  < w5.heap.size := by have := hb5.size; (try simp at this); omega
  have hy5_1 : w.heap.size + 1 < w5.heap.size := by have := hb5.size; (try simp at this); omega
  have hy5_2 : w.heap.size + 1 + 1 < w5.heap.size := by have := hb5.size; (try simp at this); omega
  go_wp2
  go_ret
  exact ⟨rfl, t5⟩
set_option maxHeartbeats 8000000 in
set_option maxRecDepth 100000 in
theorem wider_in (n N I M J K L : Int) (O U V : Bool) (hsh : paliolaw09_shown.f = some true) (hx : bound_In.f n N O I M U J = some true) (ha : bound_In.f n N false I M U J = some true) (hb' : bound_In.f n 0 false (-1) M U J = some true) (hc' : bound_In.f n N O I 0 false 1 = some true) (_hJ : (J != 0) = false) (_hL : (L != 0) = false) (_hK : ¬ K ≤ M) (_hK2 : decide (K ≤ M) = false) (hd : bound_In.f n N O I K V L = some true) (w : World) :
    Calls Try.prog 4 #[.int .i64 n, .agg #[.int .i64 N, .bool O, .int .i64 I], .agg #[.int .i64 M, .bool U, .int .i64 J], .agg #[.int .i64 K, .bool V, .int .i64 L]] w fun e w' => e = .returned (.bool true) ∧ Below w.heap.size w w' := by
  have HS := Lib.hid hsh
  have HX := Lib.hid hx
  have HA := Lib.hid ha
  have HB := Lib.hid hb'
  have HC := Lib.hid hc'
  have HD := Lib.hid hd
  clear hd
  clear hsh hx ha hb' hc'
  go_enter Try.func4, Try.ntmps4
  go_wp2_with fail
  refine (paliolaw09_shown.calls _ _ HS.out).mono ?_
  rintro e' w1 ⟨rfl, hb⟩
  obtain ⟨hc, hf⟩ := bcell hb
  have hz : w.heap.size < w1.heap.size := by have := hb.size; simp at this; omega
  have hz1 : w.heap.size + 1 < w1.heap.size := by have := hb.size; simp at this; omega
  have hz2 : w.heap.size + 1 + 1 < w1.heap.size := by have := hb.size; simp at this; omega
  have t1 := more_below (below_alloc (below_alloc (below_alloc (Below.refl _ _) _) _) _) hb
  go_wp2_with fail
  refine (bound_In.calls _ _ _ _ _ _ _ _ _ HX.out).mono ?_
  rintro e' w2 ⟨rfl, hb2⟩
  have t2 := more_below t1 hb2
  obtain ⟨hc2, hf2⟩ := bcell hb2
  have hy2_0 : w.heap.size  < w2.heap.size := by have := hb2.size; (try simp at this); omega
  have hy2_1 : w.heap.size + 1 < w2.heap.size := by have := hb2.size; (try simp at this); omega
  have hy2_2 : w.heap.size + 1 + 1 < w2.heap.size := by have := hb2.size; (try simp at this); omega
  go_wp2_with fail
  refine (bound_In.calls _ _ _ _ _ _ _ _ _ HA.out).mono ?_
  rintro e' w3 ⟨rfl, hb3⟩
  have t3 := more_below (below_alloc t2 _) hb3
  obtain ⟨hc3, hf3⟩ := bcell hb3
  have hy3_0 : w.heap.size  < w3.heap.size := by have := hb3.size; (try simp at this); omega
  have hy3_1 : w.heap.size + 1 < w3.heap.size := by have := hb3.size; (try simp at this); omega
  have hy3_2 : w.heap.size + 1 + 1 < w3.heap.size := by have := hb3.size; (try simp at this); omega
  go_wp2_with fail
  refine (bound_In.calls _ _ _ _ _ _ _ _ _ HB.out).mono ?_
  rintro e' w4 ⟨rfl, hb4⟩
  have t4 := more_below t3 hb4
  obtain ⟨hc4, hf4⟩ := bcell hb4
  have hy4_0 : w.heap.size  < w4.heap.size := by have := hb4.size; (try simp at this); omega
  have hy4_1 : w.heap.size + 1 < w4.heap.size := by have := hb4.size; (try simp at this); omega
  have hy4_2 : w.heap.size + 1 + 1 < w4.heap.size := by have := hb4.size; (try simp at this); omega
  go_wp2_with fail
  refine (bound_In.calls _ _ _ _ _ _ _ _ _ HC.out).mono ?_
  rintro e' w5 ⟨rfl, hb5⟩
  have t5 := more_below t4 hb5
  obtain ⟨hc5, hf5⟩ := bcell hb5
  have hy5_0 : w.heap.size  < w5.heap.size := by have := hb5.size; (try simp at this); omega
  have hy5_1 : w.heap.size + 1 < w5.heap.size := by have := hb5.size; (try simp at this); omega
  have hy5_2 : w.heap.size + 1 + 1 < w5.heap.size := by have := hb5.size; (try simp at this); omega
  go_wp2_with fail
  refine (bound_In.calls _ _ _ _ _ _ _ _ _ HD.out).mono ?_
  rintro e' w6 ⟨rfl, hb6⟩
  have t6 := more_below t5 hb6
  go_wp2
  go_ret
  exact ⟨rfl, t6⟩
end Go.Proofs.Ytnglofnelmojnaa.P
