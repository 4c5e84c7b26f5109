/- What is in a range is in each one that is wider: a call of the law answers true. Conditions: none. -/
import Derived.Test.YtnglofnelmojnaaPureBound
import Derived.Test.YtnglofnelmojnaaPH7
namespace Go.Proofs.Ytnglofnelmojnaa.Pure
open Go.RowKit Go.Proofs.YtnglofnelmojnaaW.PrintWords Go.Proofs.YtnglofnelmojnaaW.PrintLast Go.Proofs.YtnglofnelmojnaaW.PrintMore Go.Proofs.Ytnglofnelmojnaa.P

theorem low_in (lt gt : Bool) (I : Int) (O : Bool) (h : lowB lt gt I O = true) (hlg : gt = true → lt = false) : lowB lt gt I false = true := by
  unfold lowB at *
  by_cases hI : I = 0
  · rw [if_pos hI] at *
    cases lt <;> cases gt <;> simp_all
  · rw [if_neg hI] at *
    exact h
theorem high_more (n M K : Int) (U V : Bool) (h : highB (decide (n < M)) (decide (M < n)) 0 U = true) (hK : ¬ K ≤ M) : highB (decide (n < K)) (decide (K < n)) 0 V = true := by
  have h1 : n < K := by
    unfold highB at h
    rw [if_pos rfl] at h
    simp at h
    omega
  unfold highB
  rw [if_pos rfl, decide_eq_true h1]
  rfl
theorem BoundWider (n N I M J K L : Int) (O U V : Bool) (w : World) :
    Calls Try.prog 4 #[.int .i64 n, .agg #[.int .i64 N, .bool O, .int .i64 I], .agg #[.int .i64 M, .bool U, .int .i64 J], .agg #[.int .i64 K, .bool V, .int .i64 L]] w fun e w' => e = .returned (.bool true) ∧ Below w.heap.size w w' := by
  cases hx : (lowB (decide (n < N)) (decide (N < n)) I O && highB (decide (n < M)) (decide (M < n)) J U) with
  | false => exact wider_out n N I M J K L O U V shown_true (by rw [in_own, hx]) w
  | true =>
    have hlo := (Bool.and_eq_true_iff.mp hx).1
    have hhi := (Bool.and_eq_true_iff.mp hx).2
    have h0 : bound_In.f n N O I M U J = some true := by rw [in_own, hx]
    have ha : bound_In.f n N false I M U J = some true := by
      rw [in_own, hhi, low_in _ _ _ _ hlo (fun h => by have := of_decide_eq_true h; exact decide_eq_false (by omega))]; rfl
    have hb : bound_In.f n 0 false (-1) M U J = some true := by rw [in_own, hhi]; rfl
    have hc : bound_In.f n N O I 0 false 1 = some true := by rw [in_own, hlo]; rfl
    cases hJ : (J != 0) with
    | true => exact wider_to n N I M J K L O U V shown_true h0 ha hb hc hJ w
    | false =>
      cases hL : (L != 0) with
      | true => exact wider_other n N I M J K L O U V shown_true h0 ha hb hc hJ hL w
      | false =>
        by_cases hK : K ≤ M
        · exact wider_less n N I M J K L O U V shown_true h0 ha hb hc hJ hL hK (decide_eq_true hK) w
        · have eJ : J = 0 := by simpa using hJ
          have eL : L = 0 := by simpa using hL
          have hd : bound_In.f n N O I K V L = some true := by
            rw [eJ] at hhi
            rw [in_own, hlo, eL, high_more n M K U V hhi hK]; rfl
          exact wider_in n N I M J K L O U V shown_true h0 ha hb hc hJ hL hK (decide_eq_false hK) hd w
end Go.Proofs.Ytnglofnelmojnaa.Pure
