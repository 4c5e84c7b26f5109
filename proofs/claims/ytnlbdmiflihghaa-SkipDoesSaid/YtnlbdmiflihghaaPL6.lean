/- The statement SkipBack: the links back tell the same, the last one first. Conditions: each theorem names its own. -/
import Derived.Test.YtnlbdmiflihghaaPL1
import Derived.Test.YtnlbdmiflihghaaSKH
namespace Go.Proofs.Ytnlbdmiflihghaa.P
open Go.RowKit Go.Shelf Go.Proofs.YtnlbdmiflihghaaW.PrintWords Go.Proofs.YtnlbdmiflihghaaW.PrintLast Go.Proofs.YtnlbdmiflihghaaW.PrintMore Go.Proofs.Ytnlbdmiflihghaa.SK
attribute [local go_sem] Oper.semAt_some

def paliolaw10_SkipBack.f (_l0 : List S39) (_a1 _a2 : Int) : Option Bool := some true
theorem neq_entry (a b : En) (w : World) : (binOp .neq 28 (.agg #[.string a.1, .int .i64 a.2]) (.agg #[.string b.1, .int .i64 b.2])).run Try.prog w = .ok (.bool (!eqE a b)) w := by
  have hu9 := Try.underlying9
  have hu2 := Try.underlying2
  rw [run_neq_struct]
  have h : (Op.equalIn 10000 28 (.agg #[.string a.1, .int .i64 a.2]) (.agg #[.string b.1, .int .i64 b.2])).run Try.prog w = .ok (eqE a b) w := by
    refine eqA_of Try.underlying28 (by kernel_rfl) ?_
    refine eqf_cons (by rfl) (by kernel_rfl) (by kernel_rfl) (run_equalIn_string w _ _ _ _ hu9) ?_
    exact eqf_last (by rfl) (by kernel_rfl) (by kernel_rfl) (run_equalIn_int w _ _ .i64 _ _ _ hu2)
  rw [h]
  rfl
/-- An entry of a row that is read. -/
theorem at_E {w : World} {A : Option Addr} {n : Nat} {L : List En} (h : Kd.C k28 w A n (L.map toS)) (i : Nat) (h1 : i < n) (h2 : i < L.length) : ∃ ad, A = some ad ∧ w.cell? (ad.add (i * 2)) = some (.string (L.getD i zE).1) ∧ w.cell? ⟨(ad.add (i * 2)).block, (ad.add (i * 2)).off + 1, none⟩ = some (.int .i64 (L.getD i zE).2) := by
  obtain ⟨ad, e, c0, c1⟩ := at_T28 h (i : Int) (by omega) (by omega)
  have hr : rd_T28 (L.map toS) (i : Int) = toS (L.getD i zE) := by
    unfold rd_T28
    rw [show ((i : Nat) : Int).toNat = i by omega]
    simp only [List.getD_eq_getElem?_getD, List.getElem?_map, List.getElem?_eq_getElem h2]
    rfl
  rw [hr, show ((i : Nat) : Int).toNat = i by omega] at c0 c1
  exact ⟨ad, e, c0, c1⟩
theorem rangeP_len (p : Pl2) (f t : Int) : (rangeP p f t).length ≤ p.1.length := by
  unfold rangeP
  rw [List.length_take, List.length_drop]
  omega
set_option maxHeartbeats 8000000 in
set_option maxRecDepth 100000 in
theorem paliolaw10_SkipBack.calls (A0 : Option Addr) (c0 : Nat) (l0 : List S39) (a1 a2 : Int) (r : Bool) (w : World) (hr0 : Kd.C k39 w A0 l0.length l0) (_hc0 : l0.length ≤ c0) (h : paliolaw10_SkipBack.f l0 a1 a2 = some r) :
    Calls Try.prog 8 #[.slice A0 l0.length c0, .int .i64 a1, .int .i64 a2] w fun e w' => e = .returned (.bool r) ∧ Below w.heap.size w w' := by
  obtain rfl : r = true := by
    injection h with h
    exact h.symm
  clear h
  have HR := Aside0.mk hr0
  clear hr0
  go_enter Try.func8, Try.ntmps8
  go_wp2_with fail
  refine (shown_calls w).mono ?_
  rintro e w1 ⟨rfl, hb1⟩
  have hm := made_calls l0 A0 c0 w1 (Kd.C_below HR.out hb1)
  go_wp2_with fail
  refine hm.mono ?_
  rintro e w2 ⟨F, rfl, hO⟩
  have hm1 : w.heap.size ≤ w1.heap.size := hb1.size
  generalize w1.heap.size = b at hO hm1 hm
  have hpl : (madeP l0).1.length ≤ 120 := Nat.le_trans (madeN_len l0 _) (Nat.min_le_right _ _)
  generalize madeP l0 = p at hO hpl
  have hrn := ls_range hO.ls a1 a2
  have HB1 := Aside0.mk hb1
  have HO := Aside0.mk hO
  clear hm hO hb1 HR
  go_wp2_with fail
  refine hrn.mono ?_
  rintro e w3 ⟨v3, rfl, hR3, hb3⟩
  have hO3 := HO.out.below hb3
  obtain ⟨A3, c3, rfl, hc3, hC3⟩ := hR3.reads
  have hbk := ls_back hO3.ls (by omega) a1 a2
  have hLl := Nat.le_trans (rangeP_len p a1 a2) hpl
  generalize rangeP p a1 a2 = L at hC3 hbk hc3 hLl
  have HO3 := Aside0.mk hO3
  clear hrn hR3 hb3 hO3 HO
  go_wp2_with fail
  refine hbk.mono ?_
  rintro e w4 ⟨v4, rfl, hR4, hb4⟩
  obtain ⟨A4, c4, rfl, hc4, hC4⟩ := hR4.reads
  rw [List.length_reverse] at hC4 hc4
  rw [List.length_reverse]
  have HO4 := Aside0.mk (HO3.out.below hb4)
  have HC3 := Aside0.mk (Kd.C_below hC3 hb4)
  have HC4 := Aside0.mk hC4
  clear hbk hR4 hb4 hC3 hC4 HO3
  generalize hn : L.length = n at hc3 hc4 hLl HC3 HC4 ⊢
  have HN := Aside0.mk hn
  clear hn
  go_wp2
  go_loopg [11] n (fun gk v11 wr => ∃ i : Nat, v11 = .int .i64 (i : Int) ∧ i ≤ n ∧ gk = n - i ∧ Aside0 (Own b w1 wr b F p) ∧ Aside0 (Kd.C k28 wr A3 n (L.map toS)) ∧ Aside0 (Kd.C k28 wr A4 n (L.reverse.map toS)))
  case atStart => exact ⟨0, rfl, Nat.zero_le _, rfl, HO4, HC3, HC4⟩
  case round =>
    clear HO4 HC3 HC4
    obtain ⟨i, rfl, hi, hgk, HO, HC3, HC4⟩ := hrel
    by_cases hin : i < n
    · have hiz : (i : Int) < (n : Int) := by omega
      obtain ⟨ad3, hA3, x0, x1⟩ := at_E HC3.out i hin (by rw [HN.out]; exact hin)
      obtain ⟨ad4, hA4, y0, y1⟩ := at_E HC4.out (n - 1 - i) (by omega) (by rw [List.length_reverse, HN.out]; omega)
      have hsame : L.reverse.getD (n - 1 - i) zE = L.getD i zE := by
        simp only [List.getD_eq_getElem?_getD]
        rw [List.getElem?_reverse (by rw [HN.out]; omega), HN.out, show n - 1 - (n - 1 - i) = i by omega]
      rw [hsame] at y0 y1
      subst hA3 hA4
      have hne := neq_entry (L.getD i zE) (L.getD i zE)
      have heq : eqE (L.getD i zE) (L.getD i zE) = true := eqE_iff.mpr rfl
      rw [heq] at hne
      generalize L.getD i zE = ee at x0 x1 y0 y1 hne
      have hw1 : IntKind.i64.wrap ((n : Int) - 1) = (n : Int) - 1 := IntWalk.i64_in _ (by omega)
      have hw2 : IntKind.i64.wrap ((n : Int) - 1 - (i : Int)) = ((n - 1 - i : Nat) : Int) := by
        rw [show (n : Int) - 1 - (i : Int) = ((n - 1 - i : Nat) : Int) by omega]
        exact IntWalk.i64_in _ (by omega)
      have hb5 : ((n - 1 - i : Nat) : Int) < (n : Int) := by omega
      clear heq hsame
      go_wp2
      go_quiet (fail)
      have HO5 := Aside0.mk (HO.out.below (pw_below_drewN (Below.refl _ _) nq))
      have HC5 := Aside0.mk (Kd.C_below HC3.out (pw_below_drewN (Below.refl _ _) nq))
      have HC6 := Aside0.mk (Kd.C_below HC4.out (pw_below_drewN (Below.refl _ _) nq))
      clear HO HC3 HC4 x0 x1 y0 y1
      generalize wr.drewN nq = wq at HO5 HC5 HC6 ⊢
      go_wp2
      go_roundg (n - (i + 1))
      case measure => omega
      case rel => exact ⟨i + 1, congrArg (Value.int .i64) (by first | exact wrap_succ i (by omega) | omega), by omega, rfl, HO5, HC5, HC6⟩
    · have hiz : ¬ (i : Int) < (n : Int) := by omega
      go_wp2
      go_ret
      exact ⟨rfl, HO.out.out HB1.out hm1⟩
end Go.Proofs.Ytnlbdmiflihghaa.P
