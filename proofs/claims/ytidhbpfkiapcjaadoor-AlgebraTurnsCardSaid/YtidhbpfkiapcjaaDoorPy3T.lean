/- The law AlgebraTurns as a Lean function; a call answers true where it does. Conditions: that; that the two errors lie as the program lays them. -/
import Derived.Test.YtidhbpfkiapcjaaDoorPy0a
import Derived.Test.YtidhbpfkiapcjaaDoorPy0b
import Derived.Test.YtidhbpfkiapcjaaDoorPy2
import Derived.Test.YtidhbpfkiapcjaaDoorMG
namespace Go.Proofs.YtidhbpfkiapcjaaDoor.P
open Go.RowKit Go.Proofs.YtidhbpfkiapcjaaDoorW.PrintWords Go.Proofs.YtidhbpfkiapcjaaDoorW.PrintLast Go.Proofs.YtidhbpfkiapcjaaDoorW.PrintMore
attribute [local go_sem] max2_int min2_int max_two min_two max_three min_three max_four min_four   -- for this text's walks alone
set_option linter.unusedVariables false
set_option linter.unusedSimpArgs false

mutual
def paliolaw13_AlgebraTurns.j0 : Nat → List (List (S36)) → Bool → Int → Option (Bool)
  | 0, _, _, _ => none
  | k + 1, x0, x5, x6 => paliolaw13_AlgebraTurns.l0 k x0 x5 x6 ([] : List (List (S36))) ([] : List Int) (wrap64 ((x0.length : Int) - 1))
def paliolaw13_AlgebraTurns.l0 : Nat → List (List (S36)) → Bool → Int → List (List (S36)) → List Int → Int → Option (Bool)
  | 0, _, _, _, _, _, _ => none
  | k + 1, x0, x5, x6, x7, x8, x9 => if x9 ≥ 0 then (if 0 ≤ x9 then (if x9 < (x0.length : Int) then (if x7.length < 5864062014805 then (if x8.length < 17592186044416 then (paliolaw13_AlgebraTurns.l0 k x0 x5 x6 (x7 ++ [rd_L3 x0 x9]) (x8 ++ [1]) (wrap64 (x9 - 1))) else (none)) else (none)) else (none)) else (none)) else ((algebra_Union.f x0 x8 x6).bind fun bt364 => ((algebra_Union.f x7 x8 x6).bind fun bt368 => ((algebra_Inter.f x0 x8 x6).bind fun bt372 => ((algebra_Inter.f x7 x8 x6).bind fun bt376 => (if x5 = true then ((palioref05_Same.f k bt364.1 bt368.1).bind fun t380 => (if t380 = true then (if bt364.2 = bt368.2 then ((palioref05_Same.f k bt372.1 bt376.1).bind fun t381 => (if t381 = true then (if bt372.2 = bt376.2 then (some ((bt364.2 == 0) == (decide ((x0.length : Int) > 0)))) else (some false)) else (some false))) else (some false)) else (some false))) else (some false))))))
end
def paliolaw13_AlgebraTurns.f (k : Nat) (l0 : List (List (S36))) (a1 : Bool) : Option (Bool) := (paliolaw13_shown.f k).bind fun t353 => ((paliolaw13_Few.f k l0 true).bind fun t354 => (if a1 = true then (paliolaw13_AlgebraTurns.j0 k t354 t353 3) else (paliolaw13_AlgebraTurns.j0 k t354 t353 2)))
theorem paliolaw13_AlgebraTurns.mono_l : ∀ k, (∀ y0 y1 y2, LeO (paliolaw13_AlgebraTurns.j0 k y0 y1 y2) (paliolaw13_AlgebraTurns.j0 (k + 1) y0 y1 y2)) ∧ (∀ y0 y1 y2 y3 y4 y5, LeO (paliolaw13_AlgebraTurns.l0 k y0 y1 y2 y3 y4 y5) (paliolaw13_AlgebraTurns.l0 (k + 1) y0 y1 y2 y3 y4 y5))
  | 0 => ⟨fun _ _ _ r h => by simp [paliolaw13_AlgebraTurns.j0] at h, fun _ _ _ _ _ _ r h => by simp [paliolaw13_AlgebraTurns.l0] at h⟩
  | k + 1 => by
    obtain ⟨ih0, ih1⟩ := paliolaw13_AlgebraTurns.mono_l k
    refine ⟨?_, ?_⟩
    · intro y0 y1 y2
      unfold paliolaw13_AlgebraTurns.j0
      repeat' first
      | (with_reducible exact ih0 _ _ _)
      | (with_reducible exact ih1 _ _ _ _ _ _)
      | (with_reducible exact paliolaw13_Few.mono _ _ _)
      | (with_reducible exact paliolaw13_shown.mono _)
      | (with_reducible exact palioref05_Same.mono _ _ _)
      | (with_reducible exact LeO.refl _)
      | (with_reducible exact LeO.none _)
      | (with_reducible refine LeO.ite ?_ ?_)
      | (with_reducible refine LeO.bind ?_ (fun _ => ?_))
      | exact ih0 _ _ _
      | exact ih1 _ _ _ _ _ _
      | exact paliolaw13_Few.mono _ _ _
      | exact paliolaw13_shown.mono _
      | exact palioref05_Same.mono _ _ _
      | exact LeO.none _
      | refine LeO.ite ?_ ?_
      | refine LeO.bind ?_ (fun _ => ?_)
    · intro y0 y1 y2 y3 y4 y5
      unfold paliolaw13_AlgebraTurns.l0
      repeat' first
      | (with_reducible exact ih0 _ _ _)
      | (with_reducible exact ih1 _ _ _ _ _ _)
      | (with_reducible exact paliolaw13_Few.mono _ _ _)
      | (with_reducible exact paliolaw13_shown.mono _)
      | (with_reducible exact palioref05_Same.mono _ _ _)
      | (with_reducible exact LeO.refl _)
      | (with_reducible exact LeO.none _)
      | (with_reducible refine LeO.ite ?_ ?_)
      | (with_reducible refine LeO.bind ?_ (fun _ => ?_))
      | exact ih0 _ _ _
      | exact ih1 _ _ _ _ _ _
      | exact paliolaw13_Few.mono _ _ _
      | exact paliolaw13_shown.mono _
      | exact palioref05_Same.mono _ _ _
      | exact LeO.none _
      | refine LeO.ite ?_ ?_
      | refine LeO.bind ?_ (fun _ => ?_)
theorem paliolaw13_AlgebraTurns.mono : ∀ a0 a1 k, LeO (paliolaw13_AlgebraTurns.f k a0 a1) (paliolaw13_AlgebraTurns.f (k + 1) a0 a1) := by
  intro a0 a1 k
  obtain ⟨ih0, ih1⟩ := paliolaw13_AlgebraTurns.mono_l k
  unfold paliolaw13_AlgebraTurns.f
  repeat' first
      | (with_reducible exact ih0 _ _ _)
      | (with_reducible exact ih1 _ _ _ _ _ _)
      | (with_reducible exact paliolaw13_Few.mono _ _ _)
      | (with_reducible exact paliolaw13_shown.mono _)
      | (with_reducible exact palioref05_Same.mono _ _ _)
      | (with_reducible exact LeO.refl _)
      | (with_reducible exact LeO.none _)
      | (with_reducible refine LeO.ite ?_ ?_)
      | (with_reducible refine LeO.bind ?_ (fun _ => ?_))
      | exact ih0 _ _ _
      | exact ih1 _ _ _ _ _ _
      | exact paliolaw13_Few.mono _ _ _
      | exact paliolaw13_shown.mono _
      | exact palioref05_Same.mono _ _ _
      | exact LeO.none _
      | refine LeO.ite ?_ ?_
      | refine LeO.bind ?_ (fun _ => ?_)
set_option maxHeartbeats 8000000 in
set_option maxRecDepth 100000 in
theorem paliolaw13_AlgebraTurns.callsT (k : Nat) (A0 : Option Addr) (c0 : Nat) (l0 : List (List (S36))) (a1 : Bool) (r : Bool) (hr_ : r = true) (w : World) (hr0 : Kd.C (Kd.slice 36 k36) w A0 l0.length l0) (hc0 : l0.length ≤ c0) {p q : Addr} (hG : G2 p q w) (h : paliolaw13_AlgebraTurns.f k l0 a1 = some r) :
    Calls Tryd.prog 4 #[.slice A0 l0.length c0, .bool a1] w fun e w' => e = .returned (.bool r) ∧ Below w.heap.size w w' := by
  have HGG := Aside0.mk hG
  clear hG
  have HR0 := Aside0.mk hr0
  have HC0 := Aside0.mk hc0
  clear hr0 hc0
  have HB := Aside0.mk (Below.refl w.heap.size w)
  have H : ((paliolaw13_shown.f k).bind fun t353 => ((paliolaw13_Few.f k l0 true).bind fun t354 => (if a1 = true then (paliolaw13_AlgebraTurns.j0 k t354 t353 3) else (paliolaw13_AlgebraTurns.j0 k t354 t353 2)))) = some r := h
  clear h
  replace H := Option.bind_eq_some_iff.mp H
  obtain ⟨t353, A30, H⟩ := H
  replace H : ((paliolaw13_Few.f k l0 true).bind fun t354 => (if a1 = true then (paliolaw13_AlgebraTurns.j0 k t354 t353 3) else (paliolaw13_AlgebraTurns.j0 k t354 t353 2))) = some r := H
  have A3 := Aside0.mk A30
  clear A30
  replace H := Option.bind_eq_some_iff.mp H
  obtain ⟨t354, A40, H⟩ := H
  replace H : (if a1 = true then (paliolaw13_AlgebraTurns.j0 k t354 t353 3) else (paliolaw13_AlgebraTurns.j0 k t354 t353 2)) = some r := H
  have A4 := Aside0.mk A40
  clear A40
  have HC5 := Aside0.mk H
  clear H
  go_enter Tryd.func4, Tryd.ntmps4
  go_upto_if 21 with (first | ((with_reducible refine gate_callee (f := 10) rfl ?_); refine goesL_ (some 18) rfl rfl Tryd.func10 (by kernel_rfl) rfl #[] rfl (by (try simp only [List.map_toArray, List.map_cons, List.map_nil]); first | done | rfl | (simp only [List.length_drop, List.length_take]; rfl)) ?_; (with_reducible refine (paliolaw13_shown.calls (p := p) (q := q) k  t353 _ ?sideG A3.out).mono ?_); (case sideG => exact HGG.out.on (by repeat (first | (with_reducible first | exact HB.out | apply below_alloc | apply pw_below_drewN | apply below_drew1) | exact HB.out))); rintro e w6 ⟨rfl, hb⟩; refine ⟨_, rfl, ?_⟩; have n0_ := Aside0.mk (below_step (by repeat (first | (with_reducible first | exact HB.out | apply below_alloc | apply pw_below_drewN | apply below_drew1) | exact HB.out)) hb); clear HB; have HB := n0_; clear n0_; (try clear hb); (try clear hb2); (try clear hk); (try clear hi)) | ((with_reducible refine gate_callee (f := 11) rfl ?_); refine goesL_ (some 20) rfl rfl Tryd.func11 (by kernel_rfl) rfl #[.slice A0 l0.length c0, .bool true] rfl (by (try simp only [List.map_toArray, List.map_cons, List.map_nil]); first | done | rfl | (simp only [List.length_drop, List.length_take]; rfl)) ?_; (with_reducible refine (paliolaw13_Few.calls k _ _ l0 true t354 _ ?side1 ?side2 A4.out).mono ?_); (case side1 => repeat (first | exact (Kd.C_below HR0.out HB.out) | (with_reducible refine Kd.C_alloc ?_ _) | (with_reducible refine Kd.C_drewN ?_ _) | (with_reducible refine Kd.C_drew ?_))); (case side2 => exact HC0.out); rintro e w7 ⟨v355, rfl, ho0, hb⟩; refine ⟨_, rfl, ?_⟩; have n0_ := Aside0.mk (Kd.N_lower (Kd.N_mono (ok' := fun k_ => True) (Kd.S_N (Kd.S_bound ho0)) (fun k_ hk_ => trivial)) (below_size (by repeat (first | (with_reducible first | exact HB.out | apply below_alloc | apply pw_below_drewN | apply below_drew1) | exact HB.out)))); have n1_ := Aside0.mk (below_step (by repeat (first | (with_reducible first | exact HB.out | apply below_alloc | apply pw_below_drewN | apply below_drew1) | exact HB.out)) hb); clear HB; have HO356 := n0_; have HB := n1_; clear n0_ n1_; (try clear hb); (try clear hb2); (try clear hk); (try clear hi); (try clear ho0)))
  (try simp only [Act.put, List.setIfInBounds_toArray, List.set_cons_zero, List.set_cons_succ])
  go_cut [6] (fun v6 wc => ∃ (kq : Nat) (x6_4 : Int), v6 = .int .i64 x6_4 ∧ Aside0 (paliolaw13_AlgebraTurns.j0 kq t354 t353 x6_4 = some r) ∧ Aside0 (kq ≤ k) ∧ Aside0 (Kd.N (Kd.slice 36 k36) 26 wc w.heap.size (fun _ => True) v355 t354) ∧ Aside0 (Below w.heap.size w wc))
  case first =>
    have H := HC5.out
    clear HC5
    by_cases c8 : a1 = true
    · subst c8
      have H1 : (paliolaw13_AlgebraTurns.j0 k t354 t353 3) = some r := by rw [if_pos rfl] at H; exact H
      clear H
      have H := H1
      clear H1
      have H' := Aside0.mk H
      clear H
      go_wp2
      go_meet
      case rel => exact ⟨_, (3), (by first | rfl | (simp; done) | (simp [*]; done)), H', ⟨by first | omega | exact Nat.le_refl _⟩, ⟨by (with_reducible repeat (first | apply Kd.N_alloc | apply Kd.N_drewN | apply Kd.N_drew)); exact HO356.out⟩, ⟨by repeat (first | (with_reducible first | exact HB.out | apply below_alloc | apply pw_below_drewN | apply below_drew1) | exact HB.out)⟩⟩
    · replace c8 := Bool.eq_false_iff.mpr c8
      subst c8
      have H1 : (paliolaw13_AlgebraTurns.j0 k t354 t353 2) = some r := by rw [if_neg (show ¬ (false = true) by decide)] at H; exact H
      clear H
      have H := H1
      clear H1
      have H' := Aside0.mk H
      clear H
      go_wp2
      go_meet
      case rel => exact ⟨_, (2), (by first | rfl | (simp; done) | (simp [*]; done)), H', ⟨by first | omega | exact Nat.le_refl _⟩, ⟨by (with_reducible repeat (first | apply Kd.N_alloc | apply Kd.N_drewN | apply Kd.N_drew)); exact HO356.out⟩, ⟨by repeat (first | (with_reducible first | exact HB.out | apply below_alloc | apply pw_below_drewN | apply below_drew1) | exact HB.out)⟩⟩
  case rest =>
    clear HC5
    try clear c1
    try clear p2
    try clear c4
    try clear c8
    obtain ⟨kq, x6_4, rfl, HA, HJ4, HO_0, HB⟩ := hcut
    cases kq with
    | zero => exact absurd HA.out (by simp [paliolaw13_AlgebraTurns.j0])
    | succ kj4 =>
      have H := HA.out
      clear HA
      simp only [paliolaw13_AlgebraTurns.j0] at H
      have H' := Aside0.mk H
      clear H
      obtain ⟨Ao9, co9, eo9⟩ := Kd.N_slice HO_0.out
      subst eo9
      go_wp2
      go_loopg [7, 8, 9] kj4 (fun kq v7 v8 v9 w' => ∃ (x7_2 : List (List (S36))) (x8_2 : List Int) (x9_2 : Int), v9 = .int .i64 x9_2 ∧ Aside0 (paliolaw13_AlgebraTurns.l0 kq t354 t353 x6_4 x7_2 x8_2 x9_2 = some r) ∧ Aside0 (kq ≤ kj4) ∧ Aside0 (Kd.N (Kd.slice 36 k36) 26 w' w.heap.size (fun k_ => some k_ ≠ (v7 : Value).ownBlock ∧ some k_ ≠ (v8 : Value).ownBlock) (.slice Ao9 t354.length co9) t354) ∧ Aside0 (Kd.N (Kd.slice 36 k36) 26 w' w.heap.size (fun k_ => some k_ ≠ ((.slice Ao9 t354.length co9) : Value).ownBlock ∧ some k_ ≠ (v8 : Value).ownBlock) v7 x7_2) ∧ Aside0 (Kd.R (Kd.int .i64) 2 w' w.heap.size (fun _ => True) v8 x8_2) ∧ Aside0 (Below w.heap.size w w'))
      case atStart => exact ⟨(([] : List (List (S36)))), (([] : List Int)), (wrap64 ((t354.length : Int) - 1)), (by first | rfl | (simp; done) | (simp [*]; done)), H', ⟨Nat.le_refl _⟩, ⟨by (with_reducible repeat (first | apply Kd.N_alloc | apply Kd.N_drewN | apply Kd.N_drew)); exact Kd.N_mono HO_0.out (fun _ hk => ⟨(by simp [Value.ownBlock]), (by simp [Value.ownBlock])⟩)⟩, ⟨by first | exact Kd.S_nil _ _ _ _ _ | exact Kd.N_nil _ _ _ _ _ | exact Kd.V_nil _ _ _ _ _ | exact Kd.Q_nil _ _ _ _ _ | exact Kd.R_nil _ _ _ _ _⟩, ⟨by first | exact Kd.R_nil _ _ _ _ _ | exact Kd.N_nil _ _ _ _ _ | exact Kd.V_nil _ _ _ _ _ | exact Kd.Q_nil _ _ _ _ _ | exact Kd.S_nil _ _ _ _ _⟩, ⟨by repeat (first | (with_reducible first | exact HB.out | apply below_alloc | apply pw_below_drewN | apply below_drew1) | exact HB.out)⟩⟩
      case round =>
        clear H'
        try clear c1
        try clear p2
        try clear c4
        try clear p6
        try clear c8
        try clear p2
        obtain ⟨x7_2, x8_2, x9_2, rfl, HA, HK2, HO_0, HO_7, HO_8, HB⟩ := hrel
        cases gk with
        | zero => exact absurd HA.out (by simp [paliolaw13_AlgebraTurns.l0])
        | succ k2 =>
          have H := HA.out
          clear HA
          simp only [paliolaw13_AlgebraTurns.l0] at H
          by_cases c10 : x9_2 ≥ 0
          · rw [if_pos c10] at H
            have c10b0 : decide (0 ≤ x9_2) = true := decide_eq_true c10
            clear c10
            by_cases c11 : 0 ≤ x9_2
            · rw [if_pos c11] at H
              have c11b0 : decide (0 ≤ x9_2) = true := decide_eq_true c11
              clear c11
              by_cases c12 : x9_2 < (t354.length : Int)
              · rw [if_pos c12] at H
                have c12b0 : decide (x9_2 < (t354.length : Int)) = true := decide_eq_true c12
                clear c12
                by_cases c13 : x7_2.length < 5864062014805
                · rw [if_pos c13] at H
                  have LMc13 := Aside0.mk c13
                  clear c13
                  obtain ⟨y358, hy358⟩ : ∃ y_ : List (List (S36)), y_ = (x7_2 ++ [rd_L3 t354 x9_2]) := ⟨_, rfl⟩
                  replace H : (if x8_2.length < 17592186044416 then (paliolaw13_AlgebraTurns.l0 k2 t354 t353 x6_4 y358 (x8_2 ++ [1]) (wrap64 (x9_2 - 1))) else (none)) = some r := by first | (rw [hy358]; with_reducible exact H) | (have H2_ := (Option.bind_some _ _).symm.trans H; rw [hy358]; with_reducible exact H2_) | (have H2_ := (Option.bind_some _ _).symm.trans H; with_reducible exact H2_) | with_reducible exact H | (rw [hy358]; exact H) | exact H
                  have Ny358 := Aside0.mk hy358
                  clear hy358
                  by_cases c14 : x8_2.length < 17592186044416
                  · rw [if_pos c14] at H
                    have LMc14 := Aside0.mk c14
                    clear c14
                    obtain ⟨y361, hy361⟩ : ∃ y_ : List Int, y_ = (x8_2 ++ [1]) := ⟨_, rfl⟩
                    replace H : (paliolaw13_AlgebraTurns.l0 k2 t354 t353 x6_4 y358 y361 (wrap64 (x9_2 - 1))) = some r := by first | (rw [hy361]; with_reducible exact H) | (have H2_ := (Option.bind_some _ _).symm.trans H; rw [hy361]; with_reducible exact H2_) | (have H2_ := (Option.bind_some _ _).symm.trans H; with_reducible exact H2_) | with_reducible exact H | (rw [hy361]; exact H) | exact H
                    have Ny361 := Aside0.mk hy361
                    clear hy361
                    have H' := Aside0.mk H
                    clear H
                    have p357 : 0 ≤ (x9_2 : Int) := of_decide_eq_true (by first | (with_reducible assumption) | assumption)
                    have q357 : x9_2 < (t354.length : Int) := of_decide_eq_true (by first | (with_reducible assumption) | assumption)
                    obtain ⟨ad357, A357_0, c357_0, e357, hx357_0, hl357_0, hi357_0⟩ := at_L3 (Kd.N_reads' HO_0.out).2.2 x9_2 p357 q357
                    cases e357
                    obtain ⟨ce357, hce357, hMe357, hcc357⟩ := Kd.N_get HO_0.out [] x9_2 p357 (by first | exact q357 | exact of_decide_eq_true (by first | (with_reducible assumption) | assumption) | (have e_ := (Kd.N_reads' HO_0.out).1; omega))
                    obtain ⟨ua357_0, uc357_0, rfl, ul357_0, ge357_0⟩ := Kd.FK_slice_open hMe357
                    have hv357_0 := hcc357 0 _ rfl
                    rw [Nat.add_zero, show ((Kd.slice 36 k36)).sz = 1 from rfl, Nat.mul_one] at hv357_0
                    replace hv357_0 := Option.some.inj (hv357_0.symm.trans hx357_0)
                    injection hv357_0 with hva_ hvn_ hvc_
                    rw [hva_] at ge357_0
                    rw [hvc_] at ul357_0
                    have HL357_0 := Aside0.mk (show Kd.V k36 36 _ w.heap.size _ _ (rd_L3 t354 x9_2) from Kd.V_mk ul357_0 ge357_0)
                    clear hva_ hvn_ hvc_ ge357_0 ul357_0
                    clear hcc357 hce357
                    have HR357_0 := Aside0.mk hi357_0
                    have HC357_0 := Aside0.mk hl357_0
                    clear hi357_0 hl357_0
                    replace p357 := eq_true p357
                    replace q357 := eq_true q357
                    go_wp2_with (first | ((with_reducible refine gate_builtin (b := .append) (xs := #[.tmp 29, .tmp 34]) rfl ?_); (try (refine gate_guard (by rfl) ?_; dsimp only)); at_builtin; refine Kd.N_append (Kd.slice 36 k36) (w0 := w) w.heap.size rfl (.tmp 29) (.tmp 34) 22 26 (.slice none 0 0) 24 rfl Tryd.underlying22 info26 rfl (by decide) (by omega) u7 x7_2 (rd_L3 t354 x9_2) [.slice A357_0 (rd_L3 t354 x9_2).length c357_0] (fun k_ => some k_ ≠ (.slice (some ad357) t354.length co9 : Value).ownBlock ∧ some k_ ≠ (u8 : Value).ownBlock) (fun k_ => ((fun k_ => some k_ ≠ (.slice (some ad357) t354.length co9 : Value).ownBlock ∧ some k_ ≠ (u8 : Value).ownBlock)) k_ ∧ some k_ ≠ (u7 : Value).ownBlock) rfl rfl ?aP (fun _ hk => hk) ?aF ?aO ?aB ?aS ?aL ?_; (case aP => exact (Kd.FK_slice_mk (Kd.V_reads' (Kd.V_mono (ok' := (fun k_ => ((fun k_ => some k_ ≠ (.slice (some ad357) t354.length co9 : Value).ownBlock ∧ some k_ ≠ (u8 : Value).ownBlock)) k_ ∧ some k_ ≠ (u7 : Value).ownBlock)) (HL357_0.out) (fun k_ hk => ⟨⟨hk.2, hk.1.2⟩, hk.1.1⟩))).2.1 (Kd.V_F (Kd.V_mono (ok' := (fun k_ => ((fun k_ => some k_ ≠ (.slice (some ad357) t354.length co9 : Value).ownBlock ∧ some k_ ≠ (u8 : Value).ownBlock)) k_ ∧ some k_ ≠ (u7 : Value).ownBlock)) (HL357_0.out) (fun k_ hk => ⟨⟨hk.2, hk.1.2⟩, hk.1.1⟩))))); (case aB => exact (by repeat (first | (with_reducible first | exact HB.out | apply below_alloc | apply pw_below_drewN | apply below_drew1) | exact HB.out))); (case aF => exact (fun k_ hk => ⟨Kd.fresh' (Kd.N_lt (by (with_reducible repeat (first | apply Kd.N_alloc | apply Kd.N_drewN | apply Kd.N_drew)); exact HO_0.out)) k_ hk, Kd.fresh' (Kd.R_lt (by (with_reducible repeat (first | apply Kd.R_alloc | apply Kd.R_drewN | apply Kd.R_drew)); exact HO_8.out)) k_ hk⟩)); (case aO => exact (by (with_reducible repeat (first | apply Kd.N_alloc | apply Kd.N_drewN | apply Kd.N_drew)); exact HO_7.out)); (case aS => exact (below_size (by repeat (first | (with_reducible first | exact HB.out | apply below_alloc | apply pw_below_drewN | apply below_drew1) | exact HB.out)))); (case aL => have := LMc13.out; omega); intro v359 w15 ho hb hg hat; rw [← Ny358.out] at ho; have n0_ := Aside0.mk (Kd.N_afterv (ok := (fun k_ => some k_ ≠ (u8 : Value).ownBlock)) (by (with_reducible repeat (first | apply Kd.N_alloc | apply Kd.N_drewN | apply Kd.N_drew)); exact Kd.N_mono HO_0.out (fun _ hk => ⟨hk.2, hk.1⟩)) hg hat); have n1_ := Aside0.mk (Kd.R_over' (by (with_reducible repeat (first | apply Kd.R_alloc | apply Kd.R_drewN | apply Kd.R_drew)); exact HO_8.out) (Kd.N_typed (by (with_reducible repeat (first | apply Kd.N_alloc | apply Kd.N_drewN | apply Kd.N_drew)); exact HO_7.out)) (by decide) hg); have n2_ := Aside0.mk (Kd.V_afterv (ok := (fun k_ => some k_ ≠ (.slice (some ad357) t354.length co9 : Value).ownBlock ∧ some k_ ≠ (u8 : Value).ownBlock)) (by (with_reducible repeat (first | apply Kd.V_alloc | apply Kd.V_drewN | apply Kd.V_drew)); exact Kd.V_mono HL357_0.out (fun _ hk => ⟨⟨hk.2, hk.1.2⟩, hk.1.1⟩)) hg hat); have n3_ := Aside0.mk (hb); have n4_ := Aside0.mk (ho); clear HO_0; clear HO_8; clear HL357_0; clear HB; clear HO_7; have HO_0 := n0_; have HO_8 := n1_; have HL357_0 := n2_; have HB := n3_; have HO360 := n4_; clear n0_ n1_ n2_ n3_ n4_; clear ho hb hg hat) | ((with_reducible refine gate_builtin (b := .append) (xs := #[.tmp 36, .tmp 37]) rfl ?_); (try (refine gate_guard (by rfl) ?_; dsimp only)); at_builtin; refine Kd.R_append (Kd.int .i64) (w0 := w) w.heap.size rfl (.tmp 36) (.tmp 37) 23 2 (.int .i64 0) 8 rfl Tryd.underlying23 info2 rfl (by decide) (by omega) u8 x8_2 1 [.int .i64 1] (fun _ => True) (fun _ => False) rfl rfl ?aP (fun _ hk => hk.elim) ?aF ?aO ?aB ?aS ?aL ?_; (case aP => exact rfl); (case aB => exact (by repeat (first | (with_reducible first | exact HB.out | apply below_alloc | apply pw_below_drewN | apply below_drew1) | exact HB.out))); (case aF => exact (fun _ _ => trivial)); (case aO => exact (by (with_reducible repeat (first | apply Kd.R_alloc | apply Kd.R_drewN | apply Kd.R_drew)); exact HO_8.out)); (case aS => exact (below_size (by repeat (first | (with_reducible first | exact HB.out | apply below_alloc | apply pw_below_drewN | apply below_drew1) | exact HB.out)))); (case aL => have := LMc14.out; omega); intro v362 w16 ho hb hg hat; rw [← Ny361.out] at ho; have n0_ := Aside0.mk (Kd.N_afterv (ok := (fun k_ => some k_ ≠ (v359 : Value).ownBlock)) (by (with_reducible repeat (first | apply Kd.N_alloc | apply Kd.N_drewN | apply Kd.N_drew)); exact Kd.N_mono HO_0.out (fun _ hk => ⟨hk.2, hk.1⟩)) hg hat); have n1_ := Aside0.mk (Kd.V_afterv (ok := (fun k_ => some k_ ≠ (.slice (some ad357) t354.length co9 : Value).ownBlock ∧ some k_ ≠ (v359 : Value).ownBlock)) (by (with_reducible repeat (first | apply Kd.V_alloc | apply Kd.V_drewN | apply Kd.V_drew)); exact Kd.V_mono HL357_0.out (fun _ hk => ⟨⟨hk.1.1, hk.2⟩, hk.1.2⟩)) hg hat); have n2_ := Aside0.mk (Kd.N_afterv (ok := (fun k_ => some k_ ≠ (.slice (some ad357) t354.length co9 : Value).ownBlock)) (by (with_reducible repeat (first | apply Kd.N_alloc | apply Kd.N_drewN | apply Kd.N_drew)); exact HO360.out) hg hat); have n3_ := Aside0.mk (hb); have n4_ := Aside0.mk (ho); clear HO_0; clear HL357_0; clear HO360; clear HB; clear HO_8; have HO_0 := n0_; have HL357_0 := n1_; have HO360 := n2_; have HB := n3_; have HO363 := n4_; clear n0_ n1_ n2_ n3_ n4_; clear ho hb hg hat))
                    go_roundg k2
                    case measure => have := HJ4.out; have := HK2.out; omega
                    case rel => exact ⟨(y358), (y361), (wrap64 (x9_2 - 1)), (by first | rfl | (simp; done) | (simp [*]; done)), H', ⟨by have := HJ4.out; have := HK2.out; omega⟩, ⟨by (with_reducible repeat (first | apply Kd.N_alloc | apply Kd.N_drewN | apply Kd.N_drew)); exact HO_0.out⟩, ⟨by (with_reducible repeat (first | apply Kd.N_alloc | apply Kd.N_drewN | apply Kd.N_drew)); exact HO360.out⟩, ⟨by (with_reducible repeat (first | apply Kd.R_alloc | apply Kd.R_drewN | apply Kd.R_drew)); exact HO363.out⟩, ⟨by repeat (first | (with_reducible first | exact HB.out | apply below_alloc | apply pw_below_drewN | apply below_drew1) | exact HB.out)⟩⟩
                  · rw [if_neg c14] at H
                    exact absurd H (by simp)
                · rw [if_neg c13] at H
                  exact absurd H (by simp)
              · rw [if_neg c12] at H
                exact absurd H (by simp)
            · rw [if_neg c11] at H
              exact absurd H (by simp)
          · rw [if_neg c10] at H
            have c10b0 : decide (0 ≤ x9_2) = false := decide_eq_false c10
            clear c10
            replace H := Option.bind_eq_some_iff.mp H
            obtain ⟨⟨t364, t365⟩, A170, H⟩ := H
            replace H : ((algebra_Union.f x7_2 x8_2 x6_4).bind fun bt368 => ((algebra_Inter.f t354 x8_2 x6_4).bind fun bt372 => ((algebra_Inter.f x7_2 x8_2 x6_4).bind fun bt376 => (if t353 = true then ((palioref05_Same.f k2 t364 bt368.1).bind fun t380 => (if t380 = true then (if t365 = bt368.2 then ((palioref05_Same.f k2 bt372.1 bt376.1).bind fun t381 => (if t381 = true then (if bt372.2 = bt376.2 then (some ((t365 == 0) == (decide ((t354.length : Int) > 0)))) else (some false)) else (some false))) else (some false)) else (some false))) else (some false))))) = some r := H
            have A17 := Aside0.mk A170
            clear A170
            replace H := Option.bind_eq_some_iff.mp H
            obtain ⟨⟨t368, t369⟩, A180, H⟩ := H
            replace H : ((algebra_Inter.f t354 x8_2 x6_4).bind fun bt372 => ((algebra_Inter.f x7_2 x8_2 x6_4).bind fun bt376 => (if t353 = true then ((palioref05_Same.f k2 t364 t368).bind fun t380 => (if t380 = true then (if t365 = t369 then ((palioref05_Same.f k2 bt372.1 bt376.1).bind fun t381 => (if t381 = true then (if bt372.2 = bt376.2 then (some ((t365 == 0) == (decide ((t354.length : Int) > 0)))) else (some false)) else (some false))) else (some false)) else (some false))) else (some false)))) = some r := H
            have A18 := Aside0.mk A180
            clear A180
            replace H := Option.bind_eq_some_iff.mp H
            obtain ⟨⟨t372, t373⟩, A190, H⟩ := H
            replace H : ((algebra_Inter.f x7_2 x8_2 x6_4).bind fun bt376 => (if t353 = true then ((palioref05_Same.f k2 t364 t368).bind fun t380 => (if t380 = true then (if t365 = t369 then ((palioref05_Same.f k2 t372 bt376.1).bind fun t381 => (if t381 = true then (if t373 = bt376.2 then (some ((t365 == 0) == (decide ((t354.length : Int) > 0)))) else (some false)) else (some false))) else (some false)) else (some false))) else (some false))) = some r := H
            have A19 := Aside0.mk A190
            clear A190
            replace H := Option.bind_eq_some_iff.mp H
            obtain ⟨⟨t376, t377⟩, A200, H⟩ := H
            replace H : (if t353 = true then ((palioref05_Same.f k2 t364 t368).bind fun t380 => (if t380 = true then (if t365 = t369 then ((palioref05_Same.f k2 t372 t376).bind fun t381 => (if t381 = true then (if t373 = t377 then (some ((t365 == 0) == (decide ((t354.length : Int) > 0)))) else (some false)) else (some false))) else (some false)) else (some false))) else (some false)) = some r := H
            have A20 := Aside0.mk A200
            clear A200
            by_cases c21 : t353 = true
            · subst c21
              have H1 : ((palioref05_Same.f k2 t364 t368).bind fun t380 => (if t380 = true then (if t365 = t369 then ((palioref05_Same.f k2 t372 t376).bind fun t381 => (if t381 = true then (if t373 = t377 then (some ((t365 == 0) == (decide ((t354.length : Int) > 0)))) else (some false)) else (some false))) else (some false)) else (some false))) = some r := by rw [if_pos rfl] at H; exact H
              clear H
              have H := H1
              clear H1
              replace H := Option.bind_eq_some_iff.mp H
              obtain ⟨t380, A220, H⟩ := H
              replace H : (if t380 = true then (if t365 = t369 then ((palioref05_Same.f k2 t372 t376).bind fun t381 => (if t381 = true then (if t373 = t377 then (some ((t365 == 0) == (decide ((t354.length : Int) > 0)))) else (some false)) else (some false))) else (some false)) else (some false)) = some r := H
              have A22 := Aside0.mk A220
              clear A220
              by_cases c23 : t380 = true
              · subst c23
                have H1 : (if t365 = t369 then ((palioref05_Same.f k2 t372 t376).bind fun t381 => (if t381 = true then (if t373 = t377 then (some ((t365 == 0) == (decide ((t354.length : Int) > 0)))) else (some false)) else (some false))) else (some false)) = some r := by rw [if_pos rfl] at H; exact H
                clear H
                have H := H1
                clear H1
                by_cases c24 : t365 = t369
                · rw [if_pos c24] at H
                  have c24b0 : (t365 == t369) = true := beq_iff_eq.mpr c24
                  have c24b1 : (t365 != t369) = false := bne_eq_false_iff_eq.mpr c24
                  clear c24
                  replace H := Option.bind_eq_some_iff.mp H
                  obtain ⟨t381, A250, H⟩ := H
                  replace H : (if t381 = true then (if t373 = t377 then (some ((t365 == 0) == (decide ((t354.length : Int) > 0)))) else (some false)) else (some false)) = some r := H
                  have A25 := Aside0.mk A250
                  clear A250
                  by_cases c26 : t381 = true
                  · subst c26
                    have H1 : (if t373 = t377 then (some ((t365 == 0) == (decide ((t354.length : Int) > 0)))) else (some false)) = some r := by rw [if_pos rfl] at H; exact H
                    clear H
                    have H := H1
                    clear H1
                    by_cases c27 : t373 = t377
                    · rw [if_pos c27] at H
                      have c27b0 : (t373 == t377) = true := beq_iff_eq.mpr c27
                      have c27b1 : (t373 != t377) = false := bne_eq_false_iff_eq.mpr c27
                      clear c27
                      obtain rfl := Option.some.inj H
                      obtain ⟨Ao28, co28, eo28⟩ := Kd.R_slice HO_8.out
                      subst eo28
                      go_wp2_with (first | ((with_reducible refine gate_callee (f := 12) rfl ?_); refine goesL_ (some 43) rfl rfl Tryd.func12 (by kernel_rfl) rfl #[.slice Ao9 t354.length co9, .slice Ao28 x8_2.length co28, .int .i64 x6_4] rfl (by (try simp only [List.map_toArray, List.map_cons, List.map_nil]); first | done | rfl | (simp only [List.length_drop, List.length_take]; rfl)) ?_; (with_reducible refine (algebra_Union.calls (p := p) (q := q) _ _ t354 _ _ x8_2 x6_4 t364 t365 _ ?side1 ?side2 ?side3 ?side4 ?sideG A17.out).mono ?_); (case sideG => exact HGG.out.on (by repeat (first | (with_reducible first | exact HB.out | apply below_alloc | apply pw_below_drewN | apply below_drew1) | exact HB.out))); (case side1 => repeat (first | exact (Kd.N_reads' HO_0.out).2.2 | (with_reducible refine Kd.C_alloc ?_ _) | (with_reducible refine Kd.C_drewN ?_ _) | (with_reducible refine Kd.C_drew ?_))); (case side2 => exact (Kd.N_reads' HO_0.out).2.1); (case side3 => repeat (first | exact (Kd.R_reads' HO_8.out).2.2 | (with_reducible refine Kd.C_alloc ?_ _) | (with_reducible refine Kd.C_drewN ?_ _) | (with_reducible refine Kd.C_drew ?_))); (case side4 => exact (Kd.R_reads' HO_8.out).2.1); rintro e w29 ⟨v366, rfl, ho0, hb⟩; refine ⟨_, rfl, ?_⟩; have n0_ := Aside0.mk (Kd.N_elder' (by (with_reducible repeat (first | apply Kd.N_alloc | apply Kd.N_drewN | apply Kd.N_drew)); exact HO_0.out) (Kd.R_base ho0) hb); have n1_ := Aside0.mk (Kd.N_elder' (by (with_reducible repeat (first | apply Kd.N_alloc | apply Kd.N_drewN | apply Kd.N_drew)); exact HO_7.out) (Kd.R_base ho0) hb); have n2_ := Aside0.mk (Kd.R_below (by (with_reducible repeat (first | apply Kd.R_alloc | apply Kd.R_drewN | apply Kd.R_drew)); exact HO_8.out) hb); have n3_ := Aside0.mk (Kd.R_lower ho0 (below_size (by repeat (first | (with_reducible first | exact HB.out | apply below_alloc | apply pw_below_drewN | apply below_drew1) | exact HB.out)))); have n4_ := Aside0.mk (below_step (by repeat (first | (with_reducible first | exact HB.out | apply below_alloc | apply pw_below_drewN | apply below_drew1) | exact HB.out)) hb); clear HO_0; clear HO_7; clear HO_8; clear HB; have HO_0 := n0_; have HO_7 := n1_; have HO_8 := n2_; have HO367 := n3_; have HB := n4_; clear n0_ n1_ n2_ n3_ n4_; (try clear hb); (try clear hb2); (try clear hk); (try clear hi); (try clear ho0); obtain ⟨Ao30, co30, eo30⟩ := Kd.N_slice HO_7.out; subst eo30) | ((with_reducible refine gate_callee (f := 12) rfl ?_); refine goesL_ (some 50) rfl rfl Tryd.func12 (by kernel_rfl) rfl #[.slice Ao30 x7_2.length co30, .slice Ao28 x8_2.length co28, .int .i64 x6_4] rfl (by (try simp only [List.map_toArray, List.map_cons, List.map_nil]); first | done | rfl | (simp only [List.length_drop, List.length_take]; rfl)) ?_; (with_reducible refine (algebra_Union.calls (p := p) (q := q) _ _ x7_2 _ _ x8_2 x6_4 t368 t369 _ ?side1 ?side2 ?side3 ?side4 ?sideG A18.out).mono ?_); (case sideG => exact HGG.out.on (by repeat (first | (with_reducible first | exact HB.out | apply below_alloc | apply pw_below_drewN | apply below_drew1) | exact HB.out))); (case side1 => repeat (first | exact (Kd.N_reads' HO_7.out).2.2 | (with_reducible refine Kd.C_alloc ?_ _) | (with_reducible refine Kd.C_drewN ?_ _) | (with_reducible refine Kd.C_drew ?_))); (case side2 => exact (Kd.N_reads' HO_7.out).2.1); (case side3 => repeat (first | exact (Kd.R_reads' HO_8.out).2.2 | (with_reducible refine Kd.C_alloc ?_ _) | (with_reducible refine Kd.C_drewN ?_ _) | (with_reducible refine Kd.C_drew ?_))); (case side4 => exact (Kd.R_reads' HO_8.out).2.1); rintro e w31 ⟨v370, rfl, ho0, hb⟩; refine ⟨_, rfl, ?_⟩; have n0_ := Aside0.mk (Kd.N_elder' (by (with_reducible repeat (first | apply Kd.N_alloc | apply Kd.N_drewN | apply Kd.N_drew)); exact HO_0.out) (Kd.R_base ho0) hb); have n1_ := Aside0.mk (Kd.N_elder' (by (with_reducible repeat (first | apply Kd.N_alloc | apply Kd.N_drewN | apply Kd.N_drew)); exact HO_7.out) (Kd.R_base ho0) hb); have n2_ := Aside0.mk (Kd.R_below (by (with_reducible repeat (first | apply Kd.R_alloc | apply Kd.R_drewN | apply Kd.R_drew)); exact HO_8.out) hb); have n3_ := Aside0.mk (Kd.R_elder' (by (with_reducible repeat (first | apply Kd.R_alloc | apply Kd.R_drewN | apply Kd.R_drew)); exact HO367.out) (Kd.R_base ho0) hb); have n4_ := Aside0.mk (Kd.R_lower (Kd.R_new' ho0 (Kd.R_lt (by (with_reducible repeat (first | apply Kd.R_alloc | apply Kd.R_drewN | apply Kd.R_drew)); exact HO367.out))) (below_size (by repeat (first | (with_reducible first | exact HB.out | apply below_alloc | apply pw_below_drewN | apply below_drew1) | exact HB.out)))); have n5_ := Aside0.mk (below_step (by repeat (first | (with_reducible first | exact HB.out | apply below_alloc | apply pw_below_drewN | apply below_drew1) | exact HB.out)) hb); clear HO_0; clear HO_7; clear HO_8; clear HO367; clear HB; have HO_0 := n0_; have HO_7 := n1_; have HO_8 := n2_; have HO367 := n3_; have HO371 := n4_; have HB := n5_; clear n0_ n1_ n2_ n3_ n4_ n5_; (try clear hb); (try clear hb2); (try clear hk); (try clear hi); (try clear ho0)) | ((with_reducible refine gate_callee (f := 14) rfl ?_); refine goesL_ (some 57) rfl rfl Tryd.func14 (by kernel_rfl) rfl #[.slice Ao9 t354.length co9, .slice Ao28 x8_2.length co28, .int .i64 x6_4] rfl (by (try simp only [List.map_toArray, List.map_cons, List.map_nil]); first | done | rfl | (simp only [List.length_drop, List.length_take]; rfl)) ?_; (with_reducible refine (algebra_Inter.calls (p := p) (q := q) _ _ t354 _ _ x8_2 x6_4 t372 t373 _ ?side1 ?side2 ?side3 ?side4 ?sideG A19.out).mono ?_); (case sideG => exact HGG.out.on (by repeat (first | (with_reducible first | exact HB.out | apply below_alloc | apply pw_below_drewN | apply below_drew1) | exact HB.out))); (case side1 => repeat (first | exact (Kd.N_reads' HO_0.out).2.2 | (with_reducible refine Kd.C_alloc ?_ _) | (with_reducible refine Kd.C_drewN ?_ _) | (with_reducible refine Kd.C_drew ?_))); (case side2 => exact (Kd.N_reads' HO_0.out).2.1); (case side3 => repeat (first | exact (Kd.R_reads' HO_8.out).2.2 | (with_reducible refine Kd.C_alloc ?_ _) | (with_reducible refine Kd.C_drewN ?_ _) | (with_reducible refine Kd.C_drew ?_))); (case side4 => exact (Kd.R_reads' HO_8.out).2.1); rintro e w32 ⟨v374, rfl, ho0, hb⟩; refine ⟨_, rfl, ?_⟩; have n0_ := Aside0.mk (Kd.N_elder' (by (with_reducible repeat (first | apply Kd.N_alloc | apply Kd.N_drewN | apply Kd.N_drew)); exact HO_0.out) (Kd.R_base ho0) hb); have n1_ := Aside0.mk (Kd.N_elder' (by (with_reducible repeat (first | apply Kd.N_alloc | apply Kd.N_drewN | apply Kd.N_drew)); exact HO_7.out) (Kd.R_base ho0) hb); have n2_ := Aside0.mk (Kd.R_below (by (with_reducible repeat (first | apply Kd.R_alloc | apply Kd.R_drewN | apply Kd.R_drew)); exact HO_8.out) hb); have n3_ := Aside0.mk (Kd.R_elder' (by (with_reducible repeat (first | apply Kd.R_alloc | apply Kd.R_drewN | apply Kd.R_drew)); exact HO367.out) (Kd.R_base ho0) hb); have n4_ := Aside0.mk (Kd.R_elder' (by (with_reducible repeat (first | apply Kd.R_alloc | apply Kd.R_drewN | apply Kd.R_drew)); exact HO371.out) (Kd.R_base ho0) hb); have n5_ := Aside0.mk (Kd.R_lower (Kd.R_new' (Kd.R_new' ho0 (Kd.R_lt (by (with_reducible repeat (first | apply Kd.R_alloc | apply Kd.R_drewN | apply Kd.R_drew)); exact HO367.out))) (Kd.R_lt (by (with_reducible repeat (first | apply Kd.R_alloc | apply Kd.R_drewN | apply Kd.R_drew)); exact HO371.out))) (below_size (by repeat (first | (with_reducible first | exact HB.out | apply below_alloc | apply pw_below_drewN | apply below_drew1) | exact HB.out)))); have n6_ := Aside0.mk (below_step (by repeat (first | (with_reducible first | exact HB.out | apply below_alloc | apply pw_below_drewN | apply below_drew1) | exact HB.out)) hb); clear HO_0; clear HO_7; clear HO_8; clear HO367; clear HO371; clear HB; have HO_0 := n0_; have HO_7 := n1_; have HO_8 := n2_; have HO367 := n3_; have HO371 := n4_; have HO375 := n5_; have HB := n6_; clear n0_ n1_ n2_ n3_ n4_ n5_ n6_; (try clear hb); (try clear hb2); (try clear hk); (try clear hi); (try clear ho0)) | ((with_reducible refine gate_callee (f := 14) rfl ?_); refine goesL_ (some 64) rfl rfl Tryd.func14 (by kernel_rfl) rfl #[.slice Ao30 x7_2.length co30, .slice Ao28 x8_2.length co28, .int .i64 x6_4] rfl (by (try simp only [List.map_toArray, List.map_cons, List.map_nil]); first | done | rfl | (simp only [List.length_drop, List.length_take]; rfl)) ?_; (with_reducible refine (algebra_Inter.calls (p := p) (q := q) _ _ x7_2 _ _ x8_2 x6_4 t376 t377 _ ?side1 ?side2 ?side3 ?side4 ?sideG A20.out).mono ?_); (case sideG => exact HGG.out.on (by repeat (first | (with_reducible first | exact HB.out | apply below_alloc | apply pw_below_drewN | apply below_drew1) | exact HB.out))); (case side1 => repeat (first | exact (Kd.N_reads' HO_7.out).2.2 | (with_reducible refine Kd.C_alloc ?_ _) | (with_reducible refine Kd.C_drewN ?_ _) | (with_reducible refine Kd.C_drew ?_))); (case side2 => exact (Kd.N_reads' HO_7.out).2.1); (case side3 => repeat (first | exact (Kd.R_reads' HO_8.out).2.2 | (with_reducible refine Kd.C_alloc ?_ _) | (with_reducible refine Kd.C_drewN ?_ _) | (with_reducible refine Kd.C_drew ?_))); (case side4 => exact (Kd.R_reads' HO_8.out).2.1); rintro e w33 ⟨v378, rfl, ho0, hb⟩; refine ⟨_, rfl, ?_⟩; have n0_ := Aside0.mk (Kd.N_elder' (by (with_reducible repeat (first | apply Kd.N_alloc | apply Kd.N_drewN | apply Kd.N_drew)); exact HO_0.out) (Kd.R_base ho0) hb); have n1_ := Aside0.mk (Kd.N_elder' (by (with_reducible repeat (first | apply Kd.N_alloc | apply Kd.N_drewN | apply Kd.N_drew)); exact HO_7.out) (Kd.R_base ho0) hb); have n2_ := Aside0.mk (Kd.R_below (by (with_reducible repeat (first | apply Kd.R_alloc | apply Kd.R_drewN | apply Kd.R_drew)); exact HO_8.out) hb); have n3_ := Aside0.mk (Kd.R_elder' (by (with_reducible repeat (first | apply Kd.R_alloc | apply Kd.R_drewN | apply Kd.R_drew)); exact HO367.out) (Kd.R_base ho0) hb); have n4_ := Aside0.mk (Kd.R_elder' (by (with_reducible repeat (first | apply Kd.R_alloc | apply Kd.R_drewN | apply Kd.R_drew)); exact HO371.out) (Kd.R_base ho0) hb); have n5_ := Aside0.mk (Kd.R_elder' (by (with_reducible repeat (first | apply Kd.R_alloc | apply Kd.R_drewN | apply Kd.R_drew)); exact HO375.out) (Kd.R_base ho0) hb); have n6_ := Aside0.mk (Kd.R_lower (Kd.R_new' (Kd.R_new' (Kd.R_new' ho0 (Kd.R_lt (by (with_reducible repeat (first | apply Kd.R_alloc | apply Kd.R_drewN | apply Kd.R_drew)); exact HO367.out))) (Kd.R_lt (by (with_reducible repeat (first | apply Kd.R_alloc | apply Kd.R_drewN | apply Kd.R_drew)); exact HO371.out))) (Kd.R_lt (by (with_reducible repeat (first | apply Kd.R_alloc | apply Kd.R_drewN | apply Kd.R_drew)); exact HO375.out))) (below_size (by repeat (first | (with_reducible first | exact HB.out | apply below_alloc | apply pw_below_drewN | apply below_drew1) | exact HB.out)))); have n7_ := Aside0.mk (below_step (by repeat (first | (with_reducible first | exact HB.out | apply below_alloc | apply pw_below_drewN | apply below_drew1) | exact HB.out)) hb); clear HO_0; clear HO_7; clear HO_8; clear HO367; clear HO371; clear HO375; clear HB; have HO_0 := n0_; have HO_7 := n1_; have HO_8 := n2_; have HO367 := n3_; have HO371 := n4_; have HO375 := n5_; have HO379 := n6_; have HB := n7_; clear n0_ n1_ n2_ n3_ n4_ n5_ n6_ n7_; (try clear hb); (try clear hb2); (try clear hk); (try clear hi); (try clear ho0); obtain ⟨Ao34, co34, eo34⟩ := Kd.R_slice HO367.out; subst eo34; obtain ⟨Ao35, co35, eo35⟩ := Kd.R_slice HO371.out; subst eo35) | (go_at_call 18; (with_reducible refine (palioref05_Same.calls k2 _ _ t364 _ _ t368 true _ ?side1 ?side2 ?side3 ?side4 A22.out).mono ?_); (case side1 => repeat (first | exact (Kd.R_reads' HO367.out).2.2 | (with_reducible refine Kd.C_alloc ?_ _) | (with_reducible refine Kd.C_drewN ?_ _) | (with_reducible refine Kd.C_drew ?_))); (case side2 => exact (Kd.R_reads' HO367.out).2.1); (case side3 => repeat (first | exact (Kd.R_reads' HO371.out).2.2 | (with_reducible refine Kd.C_alloc ?_ _) | (with_reducible refine Kd.C_drewN ?_ _) | (with_reducible refine Kd.C_drew ?_))); (case side4 => exact (Kd.R_reads' HO371.out).2.1); rintro e w' ⟨rfl, ⟨nd, rfl⟩⟩; obtain ⟨Ao36, co36, eo36⟩ := Kd.R_slice HO375.out; subst eo36; obtain ⟨Ao37, co37, eo37⟩ := Kd.R_slice HO379.out; subst eo37) | (go_at_call 18; (with_reducible refine (palioref05_Same.calls k2 _ _ t372 _ _ t376 true _ ?side1 ?side2 ?side3 ?side4 A25.out).mono ?_); (case side1 => repeat (first | exact (Kd.R_reads' HO375.out).2.2 | (with_reducible refine Kd.C_alloc ?_ _) | (with_reducible refine Kd.C_drewN ?_ _) | (with_reducible refine Kd.C_drew ?_))); (case side2 => exact (Kd.R_reads' HO375.out).2.1); (case side3 => repeat (first | exact (Kd.R_reads' HO379.out).2.2 | (with_reducible refine Kd.C_alloc ?_ _) | (with_reducible refine Kd.C_drewN ?_ _) | (with_reducible refine Kd.C_drew ?_))); (case side4 => exact (Kd.R_reads' HO379.out).2.1); rintro e w' ⟨rfl, ⟨nd, rfl⟩⟩))
                      go_ret
                      exact ⟨by first | rfl | (simp [errW_none, errW_some] <;> rfl) | (simp [*, errW_none, errW_some] <;> rfl), by repeat (first | (with_reducible first | exact HB.out | apply below_alloc | apply pw_below_drewN | apply below_drew1) | exact HB.out)⟩
                    · rw [if_neg c27] at H
                      have c27b0 : (t373 == t377) = false := beq_eq_false_iff_ne.mpr c27
                      have c27b1 : (t373 != t377) = true := bne_iff_ne.mpr c27
                      exact absurd ((Option.some.inj H).trans hr_) (by decide)
                  · replace c26 := Bool.eq_false_iff.mpr c26
                    subst c26
                    have H1 : (some false) = some r := by rw [if_neg (show ¬ (false = true) by decide)] at H; exact H
                    clear H
                    have H := H1
                    clear H1
                    exact absurd ((Option.some.inj H).trans hr_) (by decide)
                · rw [if_neg c24] at H
                  have c24b0 : (t365 == t369) = false := beq_eq_false_iff_ne.mpr c24
                  have c24b1 : (t365 != t369) = true := bne_iff_ne.mpr c24
                  exact absurd ((Option.some.inj H).trans hr_) (by decide)
              · replace c23 := Bool.eq_false_iff.mpr c23
                subst c23
                have H1 : (some false) = some r := by rw [if_neg (show ¬ (false = true) by decide)] at H; exact H
                clear H
                have H := H1
                clear H1
                exact absurd ((Option.some.inj H).trans hr_) (by decide)
            · replace c21 := Bool.eq_false_iff.mpr c21
              subst c21
              have H1 : (some false) = some r := by rw [if_neg (show ¬ (false = true) by decide)] at H; exact H
              clear H
              have H := H1
              clear H1
              exact absurd ((Option.some.inj H).trans hr_) (by decide)
end Go.Proofs.YtidhbpfkiapcjaaDoor.P
