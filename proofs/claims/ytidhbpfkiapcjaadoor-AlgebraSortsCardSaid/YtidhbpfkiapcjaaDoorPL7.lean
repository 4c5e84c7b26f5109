/- The law AlgebraSorts: a call of it answers true. Conditions: that the package's two errors lie as the program lays them. -/
import Derived.Test.YtidhbpfkiapcjaaDoorPW
import Derived.Test.YtidhbpfkiapcjaaDoorPureN
namespace Go.Proofs.YtidhbpfkiapcjaaDoor.P
open Go.RowKit Go.Lib Go.Proofs.YtidhbpfkiapcjaaDoorW.PrintWords Go.Proofs.YtidhbpfkiapcjaaDoorW.PrintLast Go.Proofs.YtidhbpfkiapcjaaDoorW.PrintMore Go.Proofs.YtidhbpfkiapcjaaDoor.Pure

set_option maxHeartbeats 8000000 in
set_option maxRecDepth 100000 in
theorem sorts_calls (l : List S36) (hW : ∀ e ∈ l, W64 e.f1) (A : Option Addr) (c : Nat) (hc : l.length ≤ c) (p q : Addr) (w : World) (hG : G2 p q w) (hC : Kd.C k36 w A l.length l) :
    Calls Tryd.prog 9 #[.slice A l.length c] w fun e w' => e = .returned (.bool true) ∧ Below w.heap.size w w' := by
  have HG := Aside0.mk hG
  have HC := Aside0.mk hC
  have HCC := Aside0.mk hc
  clear hG hC hc
  have hs := few_small [l] false (by intro x hx e he; rw [List.mem_singleton.1 hx] at he; exact hW e he)
  rw [show fewL [l] false = [fewS false l] from rfl] at hs
  have hFW := fun (A : Option Addr) (c : Nat) (hc : [l].length ≤ c) (w : World) (hC : Kd.C (Kd.slice 36 k36) w A [l].length [l]) => few_w [l] false A c hc w hC
  simp only [show fewL [l] false = [fewS false l] from rfl] at hFW
  have hx := hs.each _ (List.mem_singleton.2 rfl)
  have hok := okE_small hx
  have hx30 := hx.1
  have hsz : ∀ e ∈ fewS false l, e.f0.size ≤ 10 := fun e he => (hx.2 e he).1
  have HFW := Aside0.mk hFW
  have hT := tabT_apart (fewS false l)
  have hs30 : (sortT (tabT (fewS false l))).length ≤ 30 := by
    rw [sortT_len]
    have := take_len (fewS false l) (fewS false l).length (Nat.le_refl _)
    rw [List.take_length] at this
    omega
  have hsok : okE (sortT (tabT (fewS false l))) = true := okE_small ⟨hs30, fun e he => by
    obtain ⟨e', he', h2⟩ := mem_tabT _ (mem_sortT.1 he)
    injection h2 with h1 h2
    rw [h1, h2]
    exact hx.2 e' he'⟩
  have hrs := rightB_sortT hT
  have HSO := Aside0.mk (fun A c hc (w : World) hC => algebra_Sort.calls A c (fewS false l) (sortT (tabT (fewS false l))) w hC hc (by unfold algebra_Sort.f; rw [hok]; rfl))
  have HR1 := Aside0.mk (fun A c hc (w : World) hC => algebra_Right.calls A c (fewS false l) (rightB (fewS false l)) w hC hc (by unfold algebra_Right.f; rw [hok]; rfl))
  have HR2 := Aside0.mk (fun A c hc (w : World) hC => palioref13_Right.calls 1000 A c (fewS false l) (rightB (fewS false l)) w hC hc (right_ref _ (by omega) hsz 1000 (by omega)))
  have HS2 := Aside0.mk (fun A c hc (w : World) hC => palioref13_Sort.calls 1000 A c (fewS false l) (sortT (tabT (fewS false l))) w hC hc (sort_ref _ (by omega) hsz 1000 (by omega)))
  have HR3 := Aside0.mk (fun A c hc (w : World) hC => algebra_Right.calls A c (sortT (tabT (fewS false l))) true w hC hc (by unfold algebra_Right.f; rw [hsok, if_pos rfl, hrs]))
  have hsm := fun (A : Option Addr) (c : Nat) (hc : (sortT (tabT (fewS false l))).length ≤ c) (B : Option Addr) (d : Nat) (hd : (sortT (tabT (fewS false l))).length ≤ d) (w : World) hA hB => same_w (sortT (tabT (fewS false l))) (sortT (tabT (fewS false l))) (by omega) A c hc B d hd w hA hB
  simp only [decide_true] at hsm
  have HSM := Aside0.mk hsm
  clear hsm hFW hs hx hok hsz hT hsok hrs hW
  generalize sortT (tabT (fewS false l)) = s at HSO HS2 HR3 HSM hs30
  generalize rightB (fewS false l) = rb at HR1 HR2
  generalize fewS false l = x at HSO HS2 HR1 HR2 HFW hx30
  go_enter Tryd.func9, Tryd.ntmps9
  go_wp2_with fail
  refine (shown_w p q w HG.out).mono ?_
  rintro e w1 ⟨rfl, b1⟩
  have B1 := Aside0.mk b1
  clear b1
  go_wp2_with fail
  have B2 := Aside0.mk (below_alloc B1.out (.cells #[.slice A l.length c] 26))
  refine (HFW.out (some ⟨w1.heap.size, 0, none⟩) 1 (Nat.le_refl _) _ (one_C l (Kd.C_below HC.out B1.out) HCC.out)).mono ?_
  rintro e w2 ⟨v, rfl, hS, b2⟩
  obtain ⟨A2, c2, rfl, hc2, hC2⟩ := Kd.S_reads hS
  rw [show [x].length = 1 from rfl]
  have B3 := Aside0.mk (B2.out.trans (b2.mono B2.out.size))
  clear b2 hS HFW
  obtain ⟨ad, A7, c7, e7, hx7, hc7, hC7⟩ := at_L3 hC2 0 (Int.le_refl 0) (by show (0 : Int) < 1; decide)
  subst e7
  rw [show rd_L3 [x] 0 = x from rfl, show (0 : Int).toNat = 0 from rfl, show ad.add 0 = ad from by cases ad; simp [Addr.add]] at hx7
  rw [show rd_L3 [x] 0 = x from rfl] at hc7 hC7
  have HC7 := Aside0.mk hC7
  have HCC7 := Aside0.mk hc7
  clear hC7 hc7 hC2 hc2
  go_wp2_with fail
  refine (HSO.out A7 c7 HCC7.out _ HC7.out).mono ?_
  rintro e w3 ⟨v3, rfl, hR3, b3⟩
  obtain ⟨A3, c3, rfl, hc3, hC3⟩ := Kd.R_reads hR3
  have HC7 := Aside0.mk (Kd.C_below HC7.out b3)
  have B4 := Aside0.mk (B3.out.trans (b3.mono B3.out.size))
  have HC3 := Aside0.mk hC3
  have HCC3 := Aside0.mk hc3
  clear b3 hR3 hC3 hc3 HSO hx7
  go_wp2_with fail
  refine (HR1.out A7 c7 HCC7.out _ HC7.out).mono ?_
  rintro e w4 ⟨rfl, b4⟩
  have HC7 := Aside0.mk (Kd.C_below HC7.out b4)
  have HC3 := Aside0.mk (Kd.C_below HC3.out b4)
  have B5 := Aside0.mk (B4.out.trans (b4.mono B4.out.size))
  clear b4 HR1
  go_wp2_with fail
  cases rb
  all_goals
    refine (HR2.out A7 c7 HCC7.out _ HC7.out).mono ?_
    rintro e w5 ⟨rfl, b5⟩
    have HC7 := Aside0.mk (Kd.C_below HC7.out b5)
    have HC3 := Aside0.mk (Kd.C_below HC3.out b5)
    have B6 := Aside0.mk (B5.out.trans (b5.mono B5.out.size))
    clear b5 HR2
    go_wp2_with fail
    refine (HS2.out A7 c7 HCC7.out _ HC7.out).mono ?_
    rintro e w6 ⟨v6, rfl, hR6, b6⟩
    obtain ⟨A6, c6, rfl, hc6, hC6⟩ := Kd.R_reads hR6
    have HC3 := Aside0.mk (Kd.C_below HC3.out b6)
    have B7 := Aside0.mk (B6.out.trans (b6.mono B6.out.size))
    have HC6 := Aside0.mk hC6
    have HCC6 := Aside0.mk hc6
    clear b6 hR6 hC6 hc6 HS2
    go_wp2_with fail
    refine (HSM.out A3 c3 HCC3.out A6 c6 HCC6.out _ HC3.out HC6.out).mono ?_
    rintro e w7 ⟨rfl, ⟨⟨n7, rfl⟩⟩⟩
    go_wp2_with fail
    refine (HR3.out A3 c3 HCC3.out _ (Kd.C_drewN HC3.out _)).mono ?_
    rintro e w8 ⟨rfl, b8⟩
    have B8 := Aside0.mk ((B7.out.trans (show Below w.heap.size w6 (w6.drewN n7) from ⟨rfl, rfl, rfl, Nat.le_refl _, fun _ _ => rfl⟩)).trans (b8.mono B7.out.size))
    clear b8
    go_wp2_with fail
    go_ret
    exact ⟨rfl, B8.out⟩
end Go.Proofs.YtidhbpfkiapcjaaDoor.P
