/- The law AlgebraOne: a call of it answers true. Conditions: that the package's two errors lie as the program lays them. -/
import Derived.Test.YtidhbpfkiapcjaaDoorPW
import Derived.Test.YtidhbpfkiapcjaaDoorPureD
namespace Go.Proofs.YtidhbpfkiapcjaaDoor.P
open Go.RowKit Go.Lib Go.Proofs.YtidhbpfkiapcjaaDoorW.PrintWords Go.Proofs.YtidhbpfkiapcjaaDoorW.PrintLast Go.Proofs.YtidhbpfkiapcjaaDoorW.PrintMore Go.Proofs.YtidhbpfkiapcjaaDoor.Pure

theorem few_single (l : List S36) (s : Bool) : fewL [l] s = [fewS s l] := rfl
set_option maxHeartbeats 8000000 in
set_option maxRecDepth 100000 in
theorem one_calls (l : List S36) (hW : ∀ e ∈ l, W64 e.f1) (agg : Int) (_hagg : W64 agg) (A : Option Addr) (c : Nat) (hc : l.length ≤ c) (p q : Addr) (w : World) (hG : G2 p q w) (hC : Kd.C k36 w A l.length l) :
    Calls Tryd.prog 6 #[.slice A l.length c, .int .i64 agg] w fun e w' => e = .returned (.bool true) ∧ Below w.heap.size w w' := by
  have HG := Aside0.mk hG
  have HC := Aside0.mk hC
  have HCC := Aside0.mk hc
  clear hG hC hc
  by_cases ha : 1 ≤ agg ∧ agg ≤ 3
  · obtain ⟨ha1, ha2⟩ := ha
    have HA : Aside0 (agg = 1 ∨ agg = 2 ∨ agg = 3) := ⟨by omega⟩
    have hs := few_small [l] true (by intro x hx e he; rw [List.mem_singleton.1 hx] at he; exact hW e he)
    rw [few_single] at hs
    obtain ⟨T, hT, hTx⟩ := few_right [l] (fewS true l) (by rw [few_single]; exact List.mem_singleton.2 rfl)
    have hFW := fun (A : Option Addr) (c : Nat) (hc : [l].length ≤ c) (w : World) (hC : Kd.C (Kd.slice 36 k36) w A [l].length [l]) => few_w [l] true A c hc w hC
    simp only [few_single] at hFW
    have hx30 := (hs.each _ (List.mem_singleton.2 rfl)).1
    have hb : setsB [fewS true l] = true := setsB_right (by simp) (fun y hy => by rw [List.mem_singleton.1 hy, hTx]; exact rightB_sortT hT)
    have hgx : ∀ e ∈ fewS true l, W64 e.f1 := fun e he => ((hs.each _ (List.mem_singleton.2 rfl)).2 e he).2
    have hU : madeF [fewS true l] (List.replicate 1 1) agg 1 = (fewS true l, 0) := by
      rw [hTx] at hgx hb ⊢
      exact made_one hT hgx _ _ agg HA.out (pairs_single _) rfl hb rfl
    have hI : madeF [fewS true l] (List.replicate 1 1) agg (leastI [fewS true l]) = (fewS true l, 0) := hU
    have hD : diffF [fewS true l] = (fewS true l, 0) := by
      rw [hTx] at hb ⊢
      exact diff_one hT _ rfl (pairs_single _) hb
    have hw1 : okW (List.replicate 1 1) agg = true := okW_ones 1 (by omega) agg HA.out
    have HUW := Aside0.mk (fun A c hc B d hd (w : World) hG hA hB => union_w [fewS true l] hs (List.replicate 1 1) agg hw1 A c hc B d hd p q w hG hA hB)
    have HIW := Aside0.mk (fun A c hc B d hd (w : World) hG hA hB => inter_w [fewS true l] hs (List.replicate 1 1) agg hw1 A c hc B d hd p q w hG hA hB)
    have HDW := Aside0.mk (fun A c hc (w : World) hG hA => diff_w [fewS true l] hs A c hc p q w hG hA)
    rw [hU] at HUW
    rw [hI] at HIW
    rw [hD] at HDW
    have HFW := Aside0.mk hFW
    clear hFW hU hI hD hb hgx hTx hs hW hw1
    generalize fewS true l = x at hx30 HUW HIW HDW HFW
    have hx3 : (x.length : Int) ≤ 30 := by omega
    go_enter Tryd.func6, Tryd.ntmps6
    go_wp2_with fail
    refine (shown_w p q w HG.out).mono ?_
    rintro e w1 ⟨rfl, b1⟩
    have B1 := Aside0.mk b1
    clear b1
    go_wp2_with fail
    have B2 := Aside0.mk (below_alloc B1.out (.cells #[.slice A l.length c] 26))
    refine (HFW.out (some ⟨w1.heap.size, 0, none⟩) 1 (Nat.le_refl _) _ (one_C l (Kd.C_below HC.out B1.out) HCC.out)).mono ?_
    rintro e w2 ⟨v, rfl, hS, b2⟩
    obtain ⟨A2, c2, rfl, hc2, hC2⟩ := Kd.S_reads hS
    have B3 := Aside0.mk (B2.out.trans (b2.mono B2.out.size))
    have HC2 := Aside0.mk hC2
    have HCC2 := Aside0.mk hc2
    clear b2 hS hC2 hc2 HFW
    go_wp2_with fail
    have B4 := Aside0.mk (below_alloc B3.out (.cells #[.int .i64 1] 2))
    refine (HUW.out A2 c2 HCC2.out (some ⟨w2.heap.size, 0, none⟩) 1 (Nat.le_refl _) _ (HG.out.on B4.out) (Kd.C_alloc HC2.out _) (ones_C 1 (.inl rfl) w2)).mono ?_
    rintro e w3 ⟨v3, rfl, hR3, b3⟩
    obtain ⟨A3, c3, rfl, hc3, hC3⟩ := Kd.R_reads hR3
    have HC2 := Aside0.mk (Kd.C_below (Kd.C_alloc HC2.out (.cells #[.int .i64 1] 2)) b3)
    have B5 := Aside0.mk (B4.out.trans (b3.mono B4.out.size))
    have HC3 := Aside0.mk hC3
    have HCC3 := Aside0.mk hc3
    clear b3 hR3 hC3 hc3 HUW
    go_wp2_with fail
    have B6 := Aside0.mk (below_alloc B5.out (.cells #[.int .i64 1] 2))
    refine (HIW.out A2 c2 HCC2.out (some ⟨w3.heap.size, 0, none⟩) 1 (Nat.le_refl _) _ (HG.out.on B6.out) (Kd.C_alloc HC2.out _) (ones_C 1 (.inl rfl) w3)).mono ?_
    rintro e w4 ⟨v4, rfl, hR4, b4⟩
    obtain ⟨A4, c4, rfl, hc4, hC4⟩ := Kd.R_reads hR4
    have HC2 := Aside0.mk (Kd.C_below (Kd.C_alloc HC2.out (.cells #[.int .i64 1] 2)) b4)
    have HC3 := Aside0.mk (Kd.C_below (Kd.C_alloc HC3.out (.cells #[.int .i64 1] 2)) b4)
    have B7 := Aside0.mk (B6.out.trans (b4.mono B6.out.size))
    have HC4 := Aside0.mk hC4
    have HCC4 := Aside0.mk hc4
    clear b4 hR4 hC4 hc4 HIW
    go_wp2_with fail
    refine (HDW.out A2 c2 HCC2.out _ (HG.out.on B7.out) HC2.out).mono ?_
    rintro e w5 ⟨v5, rfl, hR5, b5⟩
    obtain ⟨A5, c5, rfl, hc5, hC5⟩ := Kd.R_reads hR5
    have HC2 := Aside0.mk (Kd.C_below HC2.out b5)
    have HC3 := Aside0.mk (Kd.C_below HC3.out b5)
    have HC4 := Aside0.mk (Kd.C_below HC4.out b5)
    have B8 := Aside0.mk (B7.out.trans (b5.mono B7.out.size))
    have HC5 := Aside0.mk hC5
    have HCC5 := Aside0.mk hc5
    clear b5 hR5 hC5 hc5 HDW
    obtain ⟨ad, A6, c6, e6, hx6, hc6, hC6⟩ := at_L3 HC2.out 0 (Int.le_refl 0) (by show (0 : Int) < 1; decide)
    subst e6
    rw [show rd_L3 [x] 0 = x from rfl, show (0 : Int).toNat = 0 from rfl, show ad.add 0 = ad from by cases ad; simp [Addr.add]] at hx6
    rw [show rd_L3 [x] 0 = x from rfl] at hc6 hC6
    have HC6 := Aside0.mk hC6
    have HCC6 := Aside0.mk hc6
    clear hC6 hc6
    have hsm := fun (A : Option Addr) (c : Nat) (hc : x.length ≤ c) (B : Option Addr) (d : Nat) (hd : x.length ≤ d) (w : World) (hA : Kd.C k36 w A x.length x) (hB : Kd.C k36 w B x.length x) => same_w x x (by omega) A c hc B d hd w hA hB
    simp only [decide_true] at hsm
    have HSM := Aside0.mk hsm
    clear hsm
    go_wp2_with fail
    refine (HSM.out A3 c3 HCC3.out A6 c6 HCC6.out _ HC3.out HC6.out).mono ?_
    rintro e w6 ⟨rfl, ⟨⟨n6, rfl⟩⟩⟩
    go_wp2_with fail
    refine (HSM.out A4 c4 HCC4.out A6 c6 HCC6.out _ (Kd.C_drewN HC4.out _) (Kd.C_drewN HC6.out _)).mono ?_
    rintro e w6 ⟨rfl, ⟨⟨n7, rfl⟩⟩⟩
    go_wp2_with fail
    refine (HSM.out A5 c5 HCC5.out A6 c6 HCC6.out _ (Kd.C_drewN HC5.out _) (Kd.C_drewN HC6.out _)).mono ?_
    rintro e w6 ⟨rfl, ⟨⟨n8, rfl⟩⟩⟩
    go_wp2_with fail
    go_ret
    exact ⟨rfl, B8.out.trans ⟨rfl, rfl, rfl, Nat.le_refl _, fun _ _ => rfl⟩⟩
  · go_enter Tryd.func6, Tryd.ntmps6
    go_wp2_with fail
    refine (shown_w p q w HG.out).mono ?_
    rintro e w1 ⟨rfl, b1⟩
    have B1 := Aside0.mk b1
    clear b1
    by_cases h1 : agg < 1
    · go_wp2_with fail
      go_ret
      exact ⟨rfl, B1.out⟩
    · have h3 : 3 < agg := by omega
      go_wp2_with fail
      go_ret
      exact ⟨rfl, B1.out⟩
end Go.Proofs.YtidhbpfkiapcjaaDoor.P
