/- The law AlgebraParts: a call of it answers true. Conditions: that the package's two errors lie as the program lays them. -/
import Derived.Test.YtidhbpfkiapcjaaDoorPW
import Derived.Test.YtidhbpfkiapcjaaDoorPureP
import Derived.StillTailTactics
namespace Go.Proofs.YtidhbpfkiapcjaaDoor.P
open Go.RowKit Go.Lib Go.Proofs.YtidhbpfkiapcjaaDoorW.PrintWords Go.Proofs.YtidhbpfkiapcjaaDoorW.PrintLast Go.Proofs.YtidhbpfkiapcjaaDoorW.PrintMore Go.Proofs.YtidhbpfkiapcjaaDoor.Pure

theorem few_double (l m : List S36) (s : Bool) : fewL [l, m] s = [fewS s l, fewS s m] := rfl
theorem find_w (z : List S36) (hz : z.length ≤ 1000) (m : ByteArray) (A : Option Addr) (c : Nat) (hc : z.length ≤ c) (w : World) (hC : Kd.C k36 w A z.length z) :
    Calls Tryd.prog 19 #[.slice A z.length c, .string m] w fun e w' => e = .returned (.int .i64 (encF (findI z m))) ∧ Drawn0 w w' :=
  palioref05_Find.calls 1001 A c z m _ w hC hc (find_ref z m (by omega) 1001 (by omega))
set_option maxHeartbeats 8000000 in
set_option maxRecDepth 100000 in
theorem parts_calls (l m : List S36) (hW : ∀ e ∈ l, W64 e.f1) (hW2 : ∀ e ∈ m, W64 e.f1) (A : Option Addr) (c : Nat) (hc : l.length ≤ c) (B : Option Addr) (d : Nat) (hd : m.length ≤ d) (p q : Addr) (w : World) (hG : G2 p q w) (hC : Kd.C k36 w A l.length l) (hD : Kd.C k36 w B m.length m) :
    Calls Tryd.prog 5 #[.slice A l.length c, .slice B m.length d] w fun e w' => e = .returned (.bool true) ∧ Below w.heap.size w w' := by
  have HG := Aside0.mk hG
  have HC := Aside0.mk hC
  have HCC := Aside0.mk hc
  have HD := Aside0.mk hD
  have HDD := Aside0.mk hd
  clear hG hC hc hD hd
  have hs := few_small [l, m] true (by
    intro x hx e he
    rcases List.mem_cons.1 hx with rfl | hx
    · exact hW e he
    · rw [List.mem_singleton.1 hx] at he; exact hW2 e he)
  rw [few_double] at hs
  obtain ⟨X, hX, hXx⟩ := few_right [l, m] (fewS true l) (by rw [few_double]; exact List.mem_cons_self)
  obtain ⟨Y, hY, hYy⟩ := few_right [l, m] (fewS true m) (by rw [few_double]; exact List.mem_cons_of_mem _ List.mem_cons_self)
  have hFW := fun (A : Option Addr) (c : Nat) (hc : [l, m].length ≤ c) (w : World) (hC : Kd.C (Kd.slice 36 k36) w A [l, m].length [l, m]) => few_w [l, m] true A c hc w hC
  simp only [few_double] at hFW
  have hs2 : Small [fewS true m, fewS true l] := ⟨by show 2 ≤ 6; decide, fun z hz => hs.each z (by rcases List.mem_cons.1 hz with rfl | hz; exact List.mem_cons_of_mem _ List.mem_cons_self; rw [List.mem_singleton.1 hz]; exact List.mem_cons_self)⟩
  have hw1 : okW (List.replicate 2 1) 3 = true := okW_ones 2 (by omega) 3 (.inr (.inr rfl))
  have hpt := parts hX hY (by rw [← hXx, ← hYy]; exact hs)
  rw [← hXx, ← hYy] at hpt
  obtain ⟨u, i, cc, dd, eU, eI, eC, eD, hlen, hone⟩ := hpt
  have hlu : u.length ≤ 1000 := by have := madeF_len hs (List.replicate 2 1) 3 1; rw [eU] at this; exact this
  have HUW := Aside0.mk (fun A c hc B d hd (w : World) hG hA hB => union_w [fewS true l, fewS true m] hs (List.replicate 2 1) 3 hw1 A c hc B d hd p q w hG hA hB)
  have HIW := Aside0.mk (fun A c hc B d hd (w : World) hG hA hB => inter_w [fewS true l, fewS true m] hs (List.replicate 2 1) 3 hw1 A c hc B d hd p q w hG hA hB)
  have HDW := Aside0.mk (fun A c hc (w : World) hG hA => diff_w [fewS true l, fewS true m] hs A c hc p q w hG hA)
  have HEW := Aside0.mk (fun A c hc (w : World) hG hA => diff_w [fewS true m, fewS true l] hs2 A c hc p q w hG hA)
  rw [show leastI [fewS true l, fewS true m] = 2 from rfl, eI] at HIW
  rw [eU] at HUW
  rw [eC] at HDW
  rw [eD] at HEW
  have HFW := Aside0.mk hFW
  have HONE := Aside0.mk hone
  have HLEN := Aside0.mk hlen
  have HLU := Aside0.mk hlu
  clear hFW eU eI eC eD hs hs2 hW hW2 hw1 hXx hYy hX hY hone hlen hlu
  generalize fewS true l = x at HUW HIW HDW HEW HFW
  generalize fewS true m = y at HUW HIW HDW HEW HFW
  go_enter Tryd.func5, Tryd.ntmps5
  go_wp2_with fail
  refine (shown_w p q w HG.out).mono ?_
  rintro e w1 ⟨rfl, b1⟩
  have B1 := Aside0.mk b1
  clear b1
  go_wp2_with fail
  have B2 := Aside0.mk (below_alloc B1.out (.cells #[.slice A l.length c, .slice B m.length d] 26))
  refine (HFW.out (some ⟨w1.heap.size, 0, none⟩) 2 (Nat.le_refl _) _ (two_L l m (Kd.C_below HC.out B1.out) HCC.out (Kd.C_below HD.out B1.out) HDD.out)).mono ?_
  rintro e w2 ⟨v, rfl, hS, b2⟩
  obtain ⟨A2, c2, rfl, hc2, hC2⟩ := Kd.S_reads hS
  rw [show [x, y].length = 2 from rfl]
  have B3 := Aside0.mk (B2.out.trans (b2.mono B2.out.size))
  have HC2 := Aside0.mk hC2
  have HCC2 := Aside0.mk hc2
  clear b2 hS hC2 hc2 HFW
  obtain ⟨ad, A0, c0, e0, hx0, hc0, hC0⟩ := at_L3 HC2.out 0 (Int.le_refl 0) (by show (0 : Int) < 2; decide)
  subst e0
  obtain ⟨ad', A1, c1, e1, hx1, hc1, hC1⟩ := at_L3 HC2.out 1 (by decide) (by show (1 : Int) < 2; decide)
  cases e1
  rw [show rd_L3 [x, y] 0 = x from rfl, show (0 : Int).toNat = 0 from rfl, show ad.add 0 = ad from by cases ad; simp [Addr.add]] at hx0
  rw [show rd_L3 [x, y] 0 = x from rfl] at hc0 hC0
  rw [show rd_L3 [x, y] 1 = y from rfl, show (1 : Int).toNat = 1 from rfl, show ad.add 1 = ⟨ad.block, ad.off + 1, none⟩ from by simp [Addr.add]] at hx1
  rw [show rd_L3 [x, y] 1 = y from rfl] at hc1 hC1
  have HC0 := Aside0.mk hC0
  have HCC0 := Aside0.mk hc0
  have HC1 := Aside0.mk hC1
  have HCC1 := Aside0.mk hc1
  clear hc0 hC0 hc1 hC1
  go_upto_region 3 with fail
  go_still_tail 6, (by kernel_rfl)
  change wpList _ _ _ _ _ w2.drew
  go_wp2_with fail
  have HO := Aside0.mk (two_L y x HC1.out HCC1.out HC0.out HCC0.out)
  have B3a := Aside0.mk (below_alloc B3.out (.cells #[.slice A1 y.length c1, .slice A0 x.length c0] 26))
  have HC2a := Aside0.mk (Kd.C_alloc HC2.out (.cells #[.slice A1 y.length c1, .slice A0 x.length c0] 26))
  have h1s := ones_C 2 (.inr rfl) (w2.alloc (.cells #[.slice A1 y.length c1, .slice A0 x.length c0] 26))
  rw [World.size_alloc] at h1s
  have H1S := Aside0.mk h1s
  clear h1s
  have B4 := Aside0.mk ((below_alloc B3a.out (.cells #[.int .i64 1, .int .i64 1] 2)).drew)
  have HO := Aside0.mk (Kd.C_drew (Kd.C_alloc HO.out (.cells #[.int .i64 1, .int .i64 1] 2)))
  refine (HUW.out (some ad) c2 HCC2.out (some ⟨w2.heap.size + 1, 0, none⟩) 2 (Nat.le_refl _) _ (HG.out.on B4.out) (Kd.C_drew (Kd.C_alloc HC2a.out _)) (Kd.C_drew H1S.out)).mono ?_
  rintro e w3 ⟨v3, rfl, hR3, b3⟩
  obtain ⟨A3, c3, rfl, hc3, hC3⟩ := Kd.R_reads hR3
  have HC2 := Aside0.mk (Kd.C_below (Kd.C_drew (Kd.C_alloc HC2a.out (.cells #[.int .i64 1, .int .i64 1] 2))) b3)
  have HO := Aside0.mk (Kd.C_below HO.out b3)
  have B5 := Aside0.mk (B4.out.trans (b3.mono B4.out.size))
  have HC3 := Aside0.mk hC3
  have HCC3 := Aside0.mk hc3
  clear b3 hR3 hC3 hc3 HUW HC2a H1S
  generalize w2.heap.size = g2 at HO ⊢
  go_wp2_with fail
  have B6 := Aside0.mk (below_alloc B5.out (.cells #[.int .i64 1, .int .i64 1] 2))
  refine (HIW.out (some ad) c2 HCC2.out (some ⟨w3.heap.size, 0, none⟩) 2 (Nat.le_refl _) _ (HG.out.on B6.out) (Kd.C_alloc HC2.out _) (ones_C 2 (.inr rfl) w3)).mono ?_
  rintro e w4 ⟨v4, rfl, hR4, b4⟩
  obtain ⟨A4, c4, rfl, hc4, hC4⟩ := Kd.R_reads hR4
  have HC2 := Aside0.mk (Kd.C_below (Kd.C_alloc HC2.out (.cells #[.int .i64 1, .int .i64 1] 2)) b4)
  have HC3 := Aside0.mk (Kd.C_below (Kd.C_alloc HC3.out (.cells #[.int .i64 1, .int .i64 1] 2)) b4)
  have HO := Aside0.mk (Kd.C_below (Kd.C_alloc HO.out (.cells #[.int .i64 1, .int .i64 1] 2)) b4)
  have B7 := Aside0.mk (B6.out.trans (b4.mono B6.out.size))
  have HC4 := Aside0.mk hC4
  have HCC4 := Aside0.mk hc4
  clear b4 hR4 hC4 hc4 HIW
  go_wp2_with fail
  refine (HDW.out (some ad) c2 HCC2.out _ (HG.out.on B7.out) HC2.out).mono ?_
  rintro e w5 ⟨v5, rfl, hR5, b5⟩
  obtain ⟨A5, c5, rfl, hc5, hC5⟩ := Kd.R_reads hR5
  have HC3 := Aside0.mk (Kd.C_below HC3.out b5)
  have HC4 := Aside0.mk (Kd.C_below HC4.out b5)
  have HO := Aside0.mk (Kd.C_below HO.out b5)
  have B8 := Aside0.mk (B7.out.trans (b5.mono B7.out.size))
  have HC5 := Aside0.mk hC5
  have HCC5 := Aside0.mk hc5
  clear b5 hR5 hC5 hc5 HDW
  go_wp2_with fail
  refine (HEW.out (some ⟨g2, 0, none⟩) 2 (Nat.le_refl _) _ (HG.out.on B8.out) HO.out).mono ?_
  rintro e w6 ⟨v6, rfl, hR6, b6⟩
  obtain ⟨A6, c6, rfl, hc6, hC6⟩ := Kd.R_reads hR6
  have HC3 := Aside0.mk (Kd.C_below HC3.out b6)
  have HC4 := Aside0.mk (Kd.C_below HC4.out b6)
  have HC5 := Aside0.mk (Kd.C_below HC5.out b6)
  have B9 := Aside0.mk (B8.out.trans (b6.mono B8.out.size))
  have HC6 := Aside0.mk hC6
  have HCC6 := Aside0.mk hc6
  clear b6 hR6 hC6 hc6 HEW
  have hli : i.length + cc.length + dd.length ≤ 1000 := by have := HLEN.out; have := HLU.out; omega
  have HLI := Aside0.mk hli
  clear hli
  have HEQ : Aside0 (((u.length : Nat) : Int) = (i.length : Int) + (cc.length : Int) + (dd.length : Int)) := ⟨by have := HLEN.out; omega⟩
  obtain ⟨n, hn⟩ : ∃ n, n = u.length := ⟨_, rfl⟩
  have HN := Aside0.mk hn
  have hn1000 : n ≤ 1000 := by have := HLU.out; omega
  rw [← hn] at HEQ ⊢
  clear hn
  go_wp2_with fail
  go_loopg [16] n (fun gg v16 wr => ∃ j : Nat, v16 = .int .i64 j ∧ j ≤ n ∧ n - j ≤ gg ∧ Aside0 (Below w6.heap.size w6 wr))
  case atStart => exact ⟨0, rfl, by omega, by omega, ⟨Below.refl _ _⟩⟩
  case round =>
    obtain ⟨j, rfl, hj, hg, HB⟩ := hrel
    by_cases hjn : j < n
    · have hj1 : (j : Int) < (n : Int) := by omega
      have hjl : j < u.length := by have := HN.out; omega
      have hcl := Kd.C_below HC3.out HB.out
      rw [← HN.out] at hcl
      obtain ⟨ad3, e3, hy0, hy1⟩ := at_T36 hcl (j : Int) (by omega) hj1
      subst e3
      rw [Int.toNat_natCast, rd36_get hjl] at hy0
      have hO := HONE.out u[j] (List.getElem_mem hjl)
      clear hcl hy1
      generalize u[j] = uj at hy0 hO
      have HF1 := Aside0.mk (fun (w : World) hC => find_w i (by have := HLI.out; omega) uj.f0 A4 c4 HCC4.out w hC)
      have HF2 := Aside0.mk (fun (w : World) hC => find_w cc (by have := HLI.out; omega) uj.f0 A5 c5 HCC5.out w hC)
      have HF3 := Aside0.mk (fun (w : World) hC => find_w dd (by have := HLI.out; omega) uj.f0 A6 c6 HCC6.out w hC)
      generalize findI i uj.f0 = o1 at hO HF1
      generalize findI cc uj.f0 = o2 at hO HF2
      generalize findI dd uj.f0 = o3 at hO HF3
      have K1 := Aside0.mk (Kd.C_below HC4.out HB.out)
      have K2 := Aside0.mk (Kd.C_below HC5.out HB.out)
      have K3 := Aside0.mk (Kd.C_below HC6.out HB.out)
      have hstep : ∀ k, Aside0 (Below w6.heap.size w6 (wr.drewN k)) := fun k => ⟨HB.out.trans (show Below w6.heap.size wr (wr.drewN k) from ⟨rfl, rfl, rfl, Nat.le_refl _, fun _ _ => rfl⟩)⟩
      have HST := Aside0.mk hstep
      clear hstep
      cases o1 with
      | some a1 =>
        cases o2 with
        | some a2 => cases o3 <;> simp at hO
        | none =>
          cases o3 with
          | some a3 => simp at hO
          | none =>
            clear hO
            simp only [encF] at HF1 HF2 HF3
            have ha : (0 : Int) ≤ (a1 : Int) := by omega
            go_wp2_with fail
            refine (HF1.out _ K1.out).mono ?_
            rintro e w7 ⟨rfl, ⟨⟨n7, rfl⟩⟩⟩
            go_wp2_with fail
            refine (HF2.out _ (Kd.C_drewN K2.out _)).mono ?_
            rintro e w7 ⟨rfl, ⟨⟨n8, rfl⟩⟩⟩
            go_wp2_with fail
            refine (HF3.out _ (Kd.C_drewN K3.out _)).mono ?_
            rintro e w7 ⟨rfl, ⟨⟨n9, rfl⟩⟩⟩
            go_wp2_with fail
            go_roundg (n - (j + 1))
            case measure => omega
            case rel => exact ⟨j + 1, by go_num, by omega, by omega, HST.out _⟩
      | none =>
        cases o2 with
        | some a2 =>
          cases o3 with
          | some a3 => simp at hO
          | none =>
            clear hO
            simp only [encF] at HF1 HF2 HF3
            have ha : (0 : Int) ≤ (a2 : Int) := by omega
            go_wp2_with fail
            refine (HF1.out _ K1.out).mono ?_
            rintro e w7 ⟨rfl, ⟨⟨n7, rfl⟩⟩⟩
            go_wp2_with fail
            refine (HF2.out _ (Kd.C_drewN K2.out _)).mono ?_
            rintro e w7 ⟨rfl, ⟨⟨n8, rfl⟩⟩⟩
            go_wp2_with fail
            refine (HF3.out _ (Kd.C_drewN K3.out _)).mono ?_
            rintro e w7 ⟨rfl, ⟨⟨n9, rfl⟩⟩⟩
            go_wp2_with fail
            go_roundg (n - (j + 1))
            case measure => omega
            case rel => exact ⟨j + 1, by go_num, by omega, by omega, HST.out _⟩
        | none =>
          cases o3 with
          | none => simp at hO
          | some a3 =>
            clear hO
            simp only [encF] at HF1 HF2 HF3
            have ha : (0 : Int) ≤ (a3 : Int) := by omega
            go_wp2_with fail
            refine (HF1.out _ K1.out).mono ?_
            rintro e w7 ⟨rfl, ⟨⟨n7, rfl⟩⟩⟩
            go_wp2_with fail
            refine (HF2.out _ (Kd.C_drewN K2.out _)).mono ?_
            rintro e w7 ⟨rfl, ⟨⟨n8, rfl⟩⟩⟩
            go_wp2_with fail
            refine (HF3.out _ (Kd.C_drewN K3.out _)).mono ?_
            rintro e w7 ⟨rfl, ⟨⟨n9, rfl⟩⟩⟩
            go_wp2_with fail
            go_roundg (n - (j + 1))
            case measure => omega
            case rel => exact ⟨j + 1, by go_num, by omega, by omega, HST.out _⟩
    · have hj1 : ¬ (j : Int) < (n : Int) := by omega
      have hb1 := HLI.out
      have hw1 : IntKind.i64.wrap ((i.length : Int) + (cc.length : Int)) = (i.length : Int) + (cc.length : Int) := by rw [IntKind.wrap_i64]; omega
      have hw2 : IntKind.i64.wrap ((i.length : Int) + (cc.length : Int) + (dd.length : Int)) = (n : Int) := by rw [IntKind.wrap_i64, HEQ.out]; omega
      go_wp2_with fail
      go_ret
      exact ⟨rfl, B9.out.trans (HB.out.mono B9.out.size)⟩
end Go.Proofs.YtidhbpfkiapcjaaDoor.P
