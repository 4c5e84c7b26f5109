/- The law AlgebraEmpty: a call of it answers true. Conditions: that the package's two errors lie as the program lays them. -/
import Derived.Test.YtidhbpfkiapcjaaDoorPW
import Derived.Test.YtidhbpfkiapcjaaDoorPureD
namespace Go.Proofs.YtidhbpfkiapcjaaDoor.P
open Go.RowKit Go.Lib Go.Proofs.YtidhbpfkiapcjaaDoorW.PrintWords Go.Proofs.YtidhbpfkiapcjaaDoorW.PrintLast Go.Proofs.YtidhbpfkiapcjaaDoorW.PrintMore Go.Proofs.YtidhbpfkiapcjaaDoor.Pure

theorem few_single (l : List S36) (s : Bool) : fewL [l] s = [fewS s l] := rfl
theorem append_nil {ops : Array Oper} {rest : List Oper} {o : Oper} {a : Act} {Q : Exit → Act → World → Prop} (W : World) (base : Nat) (hgd : o.guard = none) (x y : Operand) (ho : o.op = .call { callee := .builtin .append, args := #[x, y], argTypes := #[22, 22] })
    (v : Value) (l : List S36) (hs : a.eval x = v) (hx : a.eval y = .slice (some ⟨W.heap.size, 0, none⟩) 1 1) (HO : Kd.S (Kd.slice 36 k36) 26 W base (fun _ => True) v [l]) (hb : base ≤ W.heap.size)
    (h : ∀ v1 w1, Kd.S (Kd.slice 36 k36) 26 w1 base (fun _ => True) v1 [l, []] → Below base W w1 → W.grownBy w1 v.ownBlock → wpList Tryd.prog ops Q rest (a.put o.dst v1) w1) :
    wpList Tryd.prog ops Q (o :: rest) a (W.alloc (.cells #[.slice none 0 0] 26)) :=
  Kd.S_append (Kd.slice 36 k36) (w0 := W) base hgd x y 22 26 (.slice none 0 0) 24 ho Tryd.underlying22 info26 rfl (by decide) (by decide) v [l] [] [.slice none 0 0] (fun _ => True) (fun _ => False) hs hx (Kd.M_row (Kd.R_nil _ _ _ _ _)) (fun _ hk => hk.elim) (fun _ _ => trivial) (Kd.S_mono HO (fun _ _ => ⟨trivial, fun hf => hf⟩)) (Below.refl _ _) hb (by rw [List.length_singleton]; decide)
    (fun v1 w1 h1 h2 h3 _ => h v1 w1 h1 h2 h3)

set_option maxHeartbeats 8000000 in
set_option maxRecDepth 100000 in
theorem empty_calls (l : List S36) (hW : ∀ e ∈ l, W64 e.f1) (A : Option Addr) (c : Nat) (hc : l.length ≤ c) (p q : Addr) (w : World) (hG : G2 p q w) (hC : Kd.C k36 w A l.length l) :
    Calls Tryd.prog 8 #[.slice A l.length c] w fun e w' => e = .returned (.bool true) ∧ Below w.heap.size w w' := by
  have HG := Aside0.mk hG
  have HC := Aside0.mk hC
  have HCC := Aside0.mk hc
  clear hG hC hc
  have hs0 := few_small [l] true (by intro x hx e he; rw [List.mem_singleton.1 hx] at he; exact hW e he)
  rw [few_single] at hs0
  have hs : Small [fewS true l, []] := ⟨by show 2 ≤ 6; decide, fun y hy => by
    rcases List.mem_cons.1 hy with rfl | hy
    · exact hs0.each _ List.mem_cons_self
    · rw [List.mem_singleton.1 hy]
      exact ⟨by decide, fun _ he => by cases he⟩⟩
  obtain ⟨T, hT, hTx⟩ := few_right [l] (fewS true l) (by rw [few_single]; exact List.mem_singleton.2 rfl)
  have hFW := fun (A : Option Addr) (c : Nat) (hc : [l].length ≤ c) (w : World) (hC : Kd.C (Kd.slice 36 k36) w A [l].length [l]) => few_w [l] true A c hc w hC
  simp only [few_single] at hFW
  have hx30 := (hs0.each _ (List.mem_singleton.2 rfl)).1
  have hb : setsB [fewS true l, []] = true := setsB_right (by simp) (fun y hy => by
    rcases List.mem_cons.1 hy with rfl | hy
    · rw [hTx]; exact rightB_sortT hT
    · rw [List.mem_singleton.1 hy]; decide)
  have hgx : ∀ e ∈ fewS true l, W64 e.f1 := fun e he => ((hs0.each _ (List.mem_singleton.2 rfl)).2 e he).2
  have hU : madeF [fewS true l, []] (List.replicate 2 1) 1 1 = (fewS true l, 0) := by
    rw [hTx] at hgx hb ⊢
    exact made_one hT hgx _ _ 1 (.inl rfl) (pairs_empty _) rfl hb rfl
  have hI : madeF [fewS true l, []] (List.replicate 2 1) 1 (leastI [fewS true l, []]) = ([], 0) := by
    rw [hTx] at hb ⊢
    exact made_none hT _ _ 1 (.inl rfl) (pairs_empty _) hb rfl
  have hD : diffF [fewS true l, []] = (fewS true l, 0) := by
    rw [hTx] at hb ⊢
    exact diff_one hT _ rfl (pairs_empty _) hb
  have hw1 : okW (List.replicate 2 1) 1 = true := okW_ones 2 (by omega) 1 (.inl rfl)
  have HUW := Aside0.mk (fun A c hc B d hd (w : World) hG hA hB => union_w [fewS true l, []] hs (List.replicate 2 1) 1 hw1 A c hc B d hd p q w hG hA hB)
  have HIW := Aside0.mk (fun A c hc B d hd (w : World) hG hA hB => inter_w [fewS true l, []] hs (List.replicate 2 1) 1 hw1 A c hc B d hd p q w hG hA hB)
  have HDW := Aside0.mk (fun A c hc (w : World) hG hA => diff_w [fewS true l, []] hs A c hc p q w hG hA)
  rw [hU] at HUW
  rw [hI] at HIW
  rw [hD] at HDW
  have HFW := Aside0.mk hFW
  clear hFW hU hI hD hb hgx hTx hs hs0 hW hw1
  generalize fewS true l = x at hx30 HUW HIW HDW HFW
  have hx3 : (x.length : Int) ≤ 30 := by omega
  go_enter Tryd.func8, Tryd.ntmps8
  go_wp2_with fail
  refine (shown_w p q w HG.out).mono ?_
  rintro e w1 ⟨rfl, b1⟩
  have B1 := Aside0.mk b1
  clear b1
  go_wp2_with fail
  have B2 := Aside0.mk (below_alloc B1.out (.cells #[.slice A l.length c] 26))
  refine (HFW.out (some ⟨w1.heap.size, 0, none⟩) 1 (Nat.le_refl _) _ (one_C l (Kd.C_below HC.out B1.out) HCC.out)).mono ?_
  rintro e w2 ⟨v, rfl, hS, b2⟩
  have B3 := Aside0.mk (B2.out.trans (b2.mono B2.out.size))
  have HS := Aside0.mk (Kd.S_lower hS (show w.heap.size ≤ _ from B2.out.size))
  clear b2 hS HFW
  go_wp2_with (first | ((with_reducible refine gate_builtin (b := .append) (xs := #[.tmp 14, .tmp 15]) rfl ?_); at_builtin; refine append_nil w2 w.heap.size rfl (.tmp 14) (.tmp 15) rfl _ x rfl rfl HS.out B3.out.size ?_; intro v3 w3 hS3 b3 g3; have HS3 := Aside0.mk hS3; have HB3 := Aside0.mk (B3.out.trans b3); clear hS3 b3 g3))
  obtain ⟨A2, c2, rfl, hc2, hC2⟩ := Kd.S_reads HS3.out
  have HC2 := Aside0.mk hC2
  have HCC2 := Aside0.mk hc2
  clear hC2 hc2 HS HS3
  have B4 := Aside0.mk (below_alloc HB3.out (.cells #[.int .i64 1, .int .i64 1] 2))
  refine (HIW.out A2 c2 HCC2.out (some ⟨w3.heap.size, 0, none⟩) 2 (Nat.le_refl _) _ (HG.out.on B4.out) (Kd.C_alloc HC2.out _) (ones_C 2 (.inr rfl) w3)).mono ?_
  rintro e w4 ⟨v4, rfl, hR4, b4⟩
  obtain ⟨A4, c4, rfl, hc4, hC4⟩ := Kd.R_reads hR4
  have HC2 := Aside0.mk (Kd.C_below (Kd.C_alloc HC2.out (.cells #[.int .i64 1, .int .i64 1] 2)) b4)
  have B5 := Aside0.mk (B4.out.trans (b4.mono B4.out.size))
  clear b4 hR4 hC4 hc4 HIW
  go_wp2_with fail
  have B6 := Aside0.mk (below_alloc B5.out (.cells #[.int .i64 1, .int .i64 1] 2))
  refine (HUW.out A2 c2 HCC2.out (some ⟨w4.heap.size, 0, none⟩) 2 (Nat.le_refl _) _ (HG.out.on B6.out) (Kd.C_alloc HC2.out _) (ones_C 2 (.inr rfl) w4)).mono ?_
  rintro e w5 ⟨v5, rfl, hR5, b5⟩
  obtain ⟨A5, c5, rfl, hc5, hC5⟩ := Kd.R_reads hR5
  have HC2 := Aside0.mk (Kd.C_below (Kd.C_alloc HC2.out (.cells #[.int .i64 1, .int .i64 1] 2)) b5)
  have B7 := Aside0.mk (B6.out.trans (b5.mono B6.out.size))
  have HC5 := Aside0.mk hC5
  have HCC5 := Aside0.mk hc5
  clear b5 hR5 hC5 hc5 HUW
  go_wp2_with fail
  refine (HDW.out A2 c2 HCC2.out _ (HG.out.on B7.out) HC2.out).mono ?_
  rintro e w6 ⟨v6, rfl, hR6, b6⟩
  obtain ⟨A6, c6, rfl, hc6, hC6⟩ := Kd.R_reads hR6
  have HC2 := Aside0.mk (Kd.C_below HC2.out b6)
  have HC5 := Aside0.mk (Kd.C_below HC5.out b6)
  have B8 := Aside0.mk (B7.out.trans (b6.mono B7.out.size))
  have HC6 := Aside0.mk hC6
  have HCC6 := Aside0.mk hc6
  clear b6 hR6 hC6 hc6 HDW
  obtain ⟨ad, A7, c7, e7, hx7, hc7, hC7⟩ := at_L3 HC2.out 0 (Int.le_refl 0) (by show (0 : Int) < 2; decide)
  subst e7
  rw [show rd_L3 [x, []] 0 = x from rfl, show (0 : Int).toNat = 0 from rfl, show ad.add 0 = ad from by cases ad; simp [Addr.add]] at hx7
  rw [show rd_L3 [x, []] 0 = x from rfl] at hc7 hC7
  have HC7 := Aside0.mk hC7
  have HCC7 := Aside0.mk hc7
  clear hC7 hc7
  have hsm := fun (A : Option Addr) (c : Nat) (hc : x.length ≤ c) (B : Option Addr) (d : Nat) (hd : x.length ≤ d) (w : World) (hA : Kd.C k36 w A x.length x) (hB : Kd.C k36 w B x.length x) => same_w x x (by omega) A c hc B d hd w hA hB
  simp only [decide_true] at hsm
  have HSM := Aside0.mk hsm
  clear hsm
  go_wp2_with fail
  refine (HSM.out A5 c5 HCC5.out A7 c7 HCC7.out _ HC5.out HC7.out).mono ?_
  rintro e w7 ⟨rfl, ⟨⟨n6, rfl⟩⟩⟩
  go_wp2_with fail
  refine (HSM.out A6 c6 HCC6.out A7 c7 HCC7.out _ (Kd.C_drewN HC6.out _) (Kd.C_drewN HC7.out _)).mono ?_
  rintro e w7 ⟨rfl, ⟨⟨n7, rfl⟩⟩⟩
  go_wp2_with fail
  go_ret
  exact ⟨rfl, B8.out.trans ⟨rfl, rfl, rfl, Nat.le_refl _, fun _ _ => rfl⟩⟩
end Go.Proofs.YtidhbpfkiapcjaaDoor.P
