/- The law AlgebraOwn as a Lean function; a call comes to its answer. Conditions: that it has one; that the two errors lie as the program lays them. -/
import Derived.Test.YtidhbpfkiapcjaaDoorPy0a
import Derived.Test.YtidhbpfkiapcjaaDoorPy0b
import Derived.Test.YtidhbpfkiapcjaaDoorPy2
import Derived.Test.YtidhbpfkiapcjaaDoorMG
namespace Go.Proofs.YtidhbpfkiapcjaaDoor.P
open Go.RowKit Go.Proofs.YtidhbpfkiapcjaaDoorW.PrintWords Go.Proofs.YtidhbpfkiapcjaaDoorW.PrintLast Go.Proofs.YtidhbpfkiapcjaaDoorW.PrintMore
attribute [local go_sem] max2_int min2_int max_two min_two max_three min_three max_four min_four   -- for this text's walks alone
set_option linter.unusedVariables false
set_option linter.unusedSimpArgs false

mutual
def paliolaw13_AlgebraOwn.l0 : Nat → List (List (S36)) → Bool → List (List (S36)) → List Int → Int → Option (Bool)
  | 0, _, _, _, _, _ => none
  | k + 1, x0, x3, x4, x5, x6 => if x6 < (x0.length : Int) then (if x5.length < 17592186044416 then (paliolaw13_AlgebraOwn.l0 k x0 x3 x4 (x5 ++ [1]) (wrap64 (x6 + 1))) else (none)) else ((algebra_Union.f x0 x5 3).bind fun bt392 => ((algebra_Inter.f x0 x5 3).bind fun bt396 => ((algebra_Diff.f x0).bind fun bt400 => (paliolaw13_AlgebraOwn.l1 k x0 x3 x4 bt392.1 bt396.1 bt400.1 0))))
def paliolaw13_AlgebraOwn.l1 : Nat → List (List (S36)) → Bool → List (List (S36)) → List (S36) → List (S36) → List (S36) → Int → Option (Bool)
  | 0, _, _, _, _, _, _, _ => none
  | k + 1, x0, x3, x4, x7, x9, x11, x13 => if x13 < (x7.length : Int) then (if 0 ≤ x13 then (paliolaw13_AlgebraOwn.l1 k x0 x3 x4 (x7.set (x13 : Int).toNat (⟨(rd_T36 x7 x13).f0, 77⟩ : S36)) x9 x11 (wrap64 (x13 + 1))) else (none)) else (paliolaw13_AlgebraOwn.l2 k x0 x3 x4 x9 x11 0)
def paliolaw13_AlgebraOwn.l2 : Nat → List (List (S36)) → Bool → List (List (S36)) → List (S36) → List (S36) → Int → Option (Bool)
  | 0, _, _, _, _, _, _ => none
  | k + 1, x0, x3, x4, x9, x11, x14 => if x14 < (x9.length : Int) then (if 0 ≤ x14 then (paliolaw13_AlgebraOwn.l2 k x0 x3 x4 (x9.set (x14 : Int).toNat (⟨(rd_T36 x9 x14).f0, 77⟩ : S36)) x11 (wrap64 (x14 + 1))) else (none)) else (paliolaw13_AlgebraOwn.l3 k x0 x3 x4 x11 0)
def paliolaw13_AlgebraOwn.l3 : Nat → List (List (S36)) → Bool → List (List (S36)) → List (S36) → Int → Option (Bool)
  | 0, _, _, _, _, _ => none
  | k + 1, x0, x3, x4, x11, x15 => if x15 < (x11.length : Int) then (if 0 ≤ x15 then (paliolaw13_AlgebraOwn.l3 k x0 x3 x4 (x11.set (x15 : Int).toNat (⟨(rd_T36 x11 x15).f0, 77⟩ : S36)) (wrap64 (x15 + 1))) else (none)) else (paliolaw13_AlgebraOwn.l4 k x0 x3 x4 0)
def paliolaw13_AlgebraOwn.l4 : Nat → List (List (S36)) → Bool → List (List (S36)) → Int → Option (Bool)
  | 0, _, _, _, _ => none
  | k + 1, x0, x3, x4, x16 => if x16 < (x0.length : Int) then (if 0 ≤ x16 then (if x16 < (x4.length : Int) then ((palioref05_Same.f k (rd_L3 x0 x16) (rd_L3 x4 x16)).bind fun t409 => (if t409 = true then (paliolaw13_AlgebraOwn.l4 k x0 x3 x4 (wrap64 (x16 + 1))) else (some false))) else (none)) else (none)) else (some x3)
end
def paliolaw13_AlgebraOwn.f (k : Nat) (l0 : List (List (S36))) : Option (Bool) := (paliolaw13_shown.f k).bind fun t382 => ((paliolaw13_Few.f k l0 true).bind fun t383 => ((paliolaw13_Few.f k t383 false).bind fun t386 => (paliolaw13_AlgebraOwn.l0 k t383 t382 t386 ([] : List Int) 0)))
theorem paliolaw13_AlgebraOwn.mono_l : ∀ k, (∀ y0 y1 y2 y3 y4, LeO (paliolaw13_AlgebraOwn.l0 k y0 y1 y2 y3 y4) (paliolaw13_AlgebraOwn.l0 (k + 1) y0 y1 y2 y3 y4)) ∧ (∀ y0 y1 y2 y3 y4 y5 y6, LeO (paliolaw13_AlgebraOwn.l1 k y0 y1 y2 y3 y4 y5 y6) (paliolaw13_AlgebraOwn.l1 (k + 1) y0 y1 y2 y3 y4 y5 y6)) ∧ (∀ y0 y1 y2 y3 y4 y5, LeO (paliolaw13_AlgebraOwn.l2 k y0 y1 y2 y3 y4 y5) (paliolaw13_AlgebraOwn.l2 (k + 1) y0 y1 y2 y3 y4 y5)) ∧ (∀ y0 y1 y2 y3 y4, LeO (paliolaw13_AlgebraOwn.l3 k y0 y1 y2 y3 y4) (paliolaw13_AlgebraOwn.l3 (k + 1) y0 y1 y2 y3 y4)) ∧ (∀ y0 y1 y2 y3, LeO (paliolaw13_AlgebraOwn.l4 k y0 y1 y2 y3) (paliolaw13_AlgebraOwn.l4 (k + 1) y0 y1 y2 y3))
  | 0 => ⟨fun _ _ _ _ _ r h => by simp [paliolaw13_AlgebraOwn.l0] at h, fun _ _ _ _ _ _ _ r h => by simp [paliolaw13_AlgebraOwn.l1] at h, fun _ _ _ _ _ _ r h => by simp [paliolaw13_AlgebraOwn.l2] at h, fun _ _ _ _ _ r h => by simp [paliolaw13_AlgebraOwn.l3] at h, fun _ _ _ _ r h => by simp [paliolaw13_AlgebraOwn.l4] at h⟩
  | k + 1 => by
    obtain ⟨ih0, ih1, ih2, ih3, ih4⟩ := paliolaw13_AlgebraOwn.mono_l k
    refine ⟨?_, ?_, ?_, ?_, ?_⟩
    · intro y0 y1 y2 y3 y4
      unfold paliolaw13_AlgebraOwn.l0
      repeat' first
      | (with_reducible exact ih0 _ _ _ _ _)
      | (with_reducible exact ih1 _ _ _ _ _ _ _)
      | (with_reducible exact ih2 _ _ _ _ _ _)
      | (with_reducible exact ih3 _ _ _ _ _)
      | (with_reducible exact ih4 _ _ _ _)
      | (with_reducible exact paliolaw13_Few.mono _ _ _)
      | (with_reducible exact paliolaw13_shown.mono _)
      | (with_reducible exact palioref05_Same.mono _ _ _)
      | (with_reducible exact LeO.refl _)
      | (with_reducible exact LeO.none _)
      | (with_reducible refine LeO.ite ?_ ?_)
      | (with_reducible refine LeO.bind ?_ (fun _ => ?_))
      | exact ih0 _ _ _ _ _
      | exact ih1 _ _ _ _ _ _ _
      | exact ih2 _ _ _ _ _ _
      | exact ih3 _ _ _ _ _
      | exact ih4 _ _ _ _
      | exact paliolaw13_Few.mono _ _ _
      | exact paliolaw13_shown.mono _
      | exact palioref05_Same.mono _ _ _
      | exact LeO.none _
      | refine LeO.ite ?_ ?_
      | refine LeO.bind ?_ (fun _ => ?_)
    · intro y0 y1 y2 y3 y4 y5 y6
      unfold paliolaw13_AlgebraOwn.l1
      repeat' first
      | (with_reducible exact ih0 _ _ _ _ _)
      | (with_reducible exact ih1 _ _ _ _ _ _ _)
      | (with_reducible exact ih2 _ _ _ _ _ _)
      | (with_reducible exact ih3 _ _ _ _ _)
      | (with_reducible exact ih4 _ _ _ _)
      | (with_reducible exact paliolaw13_Few.mono _ _ _)
      | (with_reducible exact paliolaw13_shown.mono _)
      | (with_reducible exact palioref05_Same.mono _ _ _)
      | (with_reducible exact LeO.refl _)
      | (with_reducible exact LeO.none _)
      | (with_reducible refine LeO.ite ?_ ?_)
      | (with_reducible refine LeO.bind ?_ (fun _ => ?_))
      | exact ih0 _ _ _ _ _
      | exact ih1 _ _ _ _ _ _ _
      | exact ih2 _ _ _ _ _ _
      | exact ih3 _ _ _ _ _
      | exact ih4 _ _ _ _
      | exact paliolaw13_Few.mono _ _ _
      | exact paliolaw13_shown.mono _
      | exact palioref05_Same.mono _ _ _
      | exact LeO.none _
      | refine LeO.ite ?_ ?_
      | refine LeO.bind ?_ (fun _ => ?_)
    · intro y0 y1 y2 y3 y4 y5
      unfold paliolaw13_AlgebraOwn.l2
      repeat' first
      | (with_reducible exact ih0 _ _ _ _ _)
      | (with_reducible exact ih1 _ _ _ _ _ _ _)
      | (with_reducible exact ih2 _ _ _ _ _ _)
      | (with_reducible exact ih3 _ _ _ _ _)
      | (with_reducible exact ih4 _ _ _ _)
      | (with_reducible exact paliolaw13_Few.mono _ _ _)
      | (with_reducible exact paliolaw13_shown.mono _)
      | (with_reducible exact palioref05_Same.mono _ _ _)
      | (with_reducible exact LeO.refl _)
      | (with_reducible exact LeO.none _)
      | (with_reducible refine LeO.ite ?_ ?_)
      | (with_reducible refine LeO.bind ?_ (fun _ => ?_))
      | exact ih0 _ _ _ _ _
      | exact ih1 _ _ _ _ _ _ _
      | exact ih2 _ _ _ _ _ _
      | exact ih3 _ _ _ _ _
      | exact ih4 _ _ _ _
      | exact paliolaw13_Few.mono _ _ _
      | exact paliolaw13_shown.mono _
      | exact palioref05_Same.mono _ _ _
      | exact LeO.none _
      | refine LeO.ite ?_ ?_
      | refine LeO.bind ?_ (fun _ => ?_)
    · intro y0 y1 y2 y3 y4
      unfold paliolaw13_AlgebraOwn.l3
      repeat' first
      | (with_reducible exact ih0 _ _ _ _ _)
      | (with_reducible exact ih1 _ _ _ _ _ _ _)
      | (with_reducible exact ih2 _ _ _ _ _ _)
      | (with_reducible exact ih3 _ _ _ _ _)
      | (with_reducible exact ih4 _ _ _ _)
      | (with_reducible exact paliolaw13_Few.mono _ _ _)
      | (with_reducible exact paliolaw13_shown.mono _)
      | (with_reducible exact palioref05_Same.mono _ _ _)
      | (with_reducible exact LeO.refl _)
      | (with_reducible exact LeO.none _)
      | (with_reducible refine LeO.ite ?_ ?_)
      | (with_reducible refine LeO.bind ?_ (fun _ => ?_))
      | exact ih0 _ _ _ _ _
      | exact ih1 _ _ _ _ _ _ _
      | exact ih2 _ _ _ _ _ _
      | exact ih3 _ _ _ _ _
      | exact ih4 _ _ _ _
      | exact paliolaw13_Few.mono _ _ _
      | exact paliolaw13_shown.mono _
      | exact palioref05_Same.mono _ _ _
      | exact LeO.none _
      | refine LeO.ite ?_ ?_
      | refine LeO.bind ?_ (fun _ => ?_)
    · intro y0 y1 y2 y3
      unfold paliolaw13_AlgebraOwn.l4
      repeat' first
      | (with_reducible exact ih0 _ _ _ _ _)
      | (with_reducible exact ih1 _ _ _ _ _ _ _)
      | (with_reducible exact ih2 _ _ _ _ _ _)
      | (with_reducible exact ih3 _ _ _ _ _)
      | (with_reducible exact ih4 _ _ _ _)
      | (with_reducible exact paliolaw13_Few.mono _ _ _)
      | (with_reducible exact paliolaw13_shown.mono _)
      | (with_reducible exact palioref05_Same.mono _ _ _)
      | (with_reducible exact LeO.refl _)
      | (with_reducible exact LeO.none _)
      | (with_reducible refine LeO.ite ?_ ?_)
      | (with_reducible refine LeO.bind ?_ (fun _ => ?_))
      | exact ih0 _ _ _ _ _
      | exact ih1 _ _ _ _ _ _ _
      | exact ih2 _ _ _ _ _ _
      | exact ih3 _ _ _ _ _
      | exact ih4 _ _ _ _
      | exact paliolaw13_Few.mono _ _ _
      | exact paliolaw13_shown.mono _
      | exact palioref05_Same.mono _ _ _
      | exact LeO.none _
      | refine LeO.ite ?_ ?_
      | refine LeO.bind ?_ (fun _ => ?_)
theorem paliolaw13_AlgebraOwn.mono : ∀ a0 k, LeO (paliolaw13_AlgebraOwn.f k a0) (paliolaw13_AlgebraOwn.f (k + 1) a0) := by
  intro a0 k
  obtain ⟨ih0, ih1, ih2, ih3, ih4⟩ := paliolaw13_AlgebraOwn.mono_l k
  unfold paliolaw13_AlgebraOwn.f
  repeat' first
      | (with_reducible exact ih0 _ _ _ _ _)
      | (with_reducible exact ih1 _ _ _ _ _ _ _)
      | (with_reducible exact ih2 _ _ _ _ _ _)
      | (with_reducible exact ih3 _ _ _ _ _)
      | (with_reducible exact ih4 _ _ _ _)
      | (with_reducible exact paliolaw13_Few.mono _ _ _)
      | (with_reducible exact paliolaw13_shown.mono _)
      | (with_reducible exact palioref05_Same.mono _ _ _)
      | (with_reducible exact LeO.refl _)
      | (with_reducible exact LeO.none _)
      | (with_reducible refine LeO.ite ?_ ?_)
      | (with_reducible refine LeO.bind ?_ (fun _ => ?_))
      | exact ih0 _ _ _ _ _
      | exact ih1 _ _ _ _ _ _ _
      | exact ih2 _ _ _ _ _ _
      | exact ih3 _ _ _ _ _
      | exact ih4 _ _ _ _
      | exact paliolaw13_Few.mono _ _ _
      | exact paliolaw13_shown.mono _
      | exact palioref05_Same.mono _ _ _
      | exact LeO.none _
      | refine LeO.ite ?_ ?_
      | refine LeO.bind ?_ (fun _ => ?_)
set_option maxHeartbeats 8000000 in
set_option maxRecDepth 100000 in
theorem paliolaw13_AlgebraOwn.calls (k : Nat) (A0 : Option Addr) (c0 : Nat) (l0 : List (List (S36))) (r : Bool) (w : World) (hr0 : Kd.C (Kd.slice 36 k36) w A0 l0.length l0) (hc0 : l0.length ≤ c0) {p q : Addr} (hG : G2 p q w) (h : paliolaw13_AlgebraOwn.f k l0 = some r) :
    Calls Tryd.prog 7 #[.slice A0 l0.length c0] w fun e w' => e = .returned (.bool r) ∧ Below w.heap.size w w' := by
  have HGG := Aside0.mk hG
  clear hG
  have HR0 := Aside0.mk hr0
  have HC0 := Aside0.mk hc0
  clear hr0 hc0
  have HB := Aside0.mk (Below.refl w.heap.size w)
  have H : ((paliolaw13_shown.f k).bind fun t382 => ((paliolaw13_Few.f k l0 true).bind fun t383 => ((paliolaw13_Few.f k t383 false).bind fun t386 => (paliolaw13_AlgebraOwn.l0 k t383 t382 t386 ([] : List Int) 0)))) = some r := h
  clear h
  replace H := Option.bind_eq_some_iff.mp H
  obtain ⟨t382, A20, H⟩ := H
  replace H : ((paliolaw13_Few.f k l0 true).bind fun t383 => ((paliolaw13_Few.f k t383 false).bind fun t386 => (paliolaw13_AlgebraOwn.l0 k t383 t382 t386 ([] : List Int) 0))) = some r := H
  have A2 := Aside0.mk A20
  clear A20
  replace H := Option.bind_eq_some_iff.mp H
  obtain ⟨t383, A30, H⟩ := H
  replace H : ((paliolaw13_Few.f k t383 false).bind fun t386 => (paliolaw13_AlgebraOwn.l0 k t383 t382 t386 ([] : List Int) 0)) = some r := H
  have A3 := Aside0.mk A30
  clear A30
  replace H := Option.bind_eq_some_iff.mp H
  obtain ⟨t386, A40, H⟩ := H
  replace H : (paliolaw13_AlgebraOwn.l0 k t383 t382 t386 ([] : List Int) 0) = some r := H
  have A4 := Aside0.mk A40
  clear A40
  have H' := Aside0.mk H
  clear H
  go_enter Tryd.func7, Tryd.ntmps7
  go_wp2_with (first | (go_at_call 10; (with_reducible refine (paliolaw13_shown.calls (p := p) (q := q) k  t382 _ ?sideG A2.out).mono ?_); (case sideG => exact HGG.out.on (by repeat (first | (with_reducible first | exact HB.out | apply below_alloc | apply pw_below_drewN | apply below_drew1) | exact HB.out))); rintro e w5 ⟨rfl, hb⟩; have n0_ := Aside0.mk (below_step (by repeat (first | (with_reducible first | exact HB.out | apply below_alloc | apply pw_below_drewN | apply below_drew1) | exact HB.out)) hb); clear HB; have HB := n0_; clear n0_; (try clear hb); (try clear hb2); (try clear hk); (try clear hi)) | (go_at_call 11; (with_reducible refine (paliolaw13_Few.calls k _ _ l0 true t383 _ ?side1 ?side2 A3.out).mono ?_); (case side1 => repeat (first | exact (Kd.C_below HR0.out HB.out) | (with_reducible refine Kd.C_alloc ?_ _) | (with_reducible refine Kd.C_drewN ?_ _) | (with_reducible refine Kd.C_drew ?_))); (case side2 => exact HC0.out); rintro e w6 ⟨v384, rfl, ho0, hb⟩; have n0_ := Aside0.mk (Kd.S_lower ho0 (below_size (by repeat (first | (with_reducible first | exact HB.out | apply below_alloc | apply pw_below_drewN | apply below_drew1) | exact HB.out)))); have n1_ := Aside0.mk (below_step (by repeat (first | (with_reducible first | exact HB.out | apply below_alloc | apply pw_below_drewN | apply below_drew1) | exact HB.out)) hb); clear HB; have HO385 := n0_; have HB := n1_; clear n0_ n1_; (try clear hb); (try clear hb2); (try clear hk); (try clear hi); (try clear ho0); obtain ⟨Ao7, co7, eo7⟩ := Kd.S_slice HO385.out; subst eo7) | (go_at_call 11; (with_reducible refine (paliolaw13_Few.calls k _ _ t383 false t386 _ ?side1 ?side2 A4.out).mono ?_); (case side1 => repeat (first | exact (Kd.S_reads' HO385.out).2.2 | (with_reducible refine Kd.C_alloc ?_ _) | (with_reducible refine Kd.C_drewN ?_ _) | (with_reducible refine Kd.C_drew ?_))); (case side2 => exact (Kd.S_reads' HO385.out).2.1); rintro e w8 ⟨v387, rfl, ho0, hb⟩; have n0_ := Aside0.mk (Kd.S_elder' (by (with_reducible repeat (first | apply Kd.S_alloc | apply Kd.S_drewN | apply Kd.S_drew)); exact HO385.out) (Kd.S_base ho0) hb); have n1_ := Aside0.mk (Kd.S_lower (Kd.S_new' ho0 (Kd.S_lt (by (with_reducible repeat (first | apply Kd.S_alloc | apply Kd.S_drewN | apply Kd.S_drew)); exact HO385.out))) (below_size (by repeat (first | (with_reducible first | exact HB.out | apply below_alloc | apply pw_below_drewN | apply below_drew1) | exact HB.out)))); have n2_ := Aside0.mk (below_step (by repeat (first | (with_reducible first | exact HB.out | apply below_alloc | apply pw_below_drewN | apply below_drew1) | exact HB.out)) hb); clear HO385; clear HB; have HO385 := n0_; have HO388 := n1_; have HB := n2_; clear n0_ n1_ n2_; (try clear hb); (try clear hb2); (try clear hk); (try clear hi); (try clear ho0)))
  repeat (go_quiet (first | (go_at_call 10; (with_reducible refine (paliolaw13_shown.calls (p := p) (q := q) k  t382 _ ?sideG A2.out).mono ?_); (case sideG => exact HGG.out.on (by repeat (first | (with_reducible first | exact HB.out | apply below_alloc | apply pw_below_drewN | apply below_drew1) | exact HB.out))); rintro e w5 ⟨rfl, hb⟩; have n0_ := Aside0.mk (below_step (by repeat (first | (with_reducible first | exact HB.out | apply below_alloc | apply pw_below_drewN | apply below_drew1) | exact HB.out)) hb); clear HB; have HB := n0_; clear n0_; (try clear hb); (try clear hb2); (try clear hk); (try clear hi)) | (go_at_call 11; (with_reducible refine (paliolaw13_Few.calls k _ _ l0 true t383 _ ?side1 ?side2 A3.out).mono ?_); (case side1 => repeat (first | exact (Kd.C_below HR0.out HB.out) | (with_reducible refine Kd.C_alloc ?_ _) | (with_reducible refine Kd.C_drewN ?_ _) | (with_reducible refine Kd.C_drew ?_))); (case side2 => exact HC0.out); rintro e w6 ⟨v384, rfl, ho0, hb⟩; have n0_ := Aside0.mk (Kd.S_lower ho0 (below_size (by repeat (first | (with_reducible first | exact HB.out | apply below_alloc | apply pw_below_drewN | apply below_drew1) | exact HB.out)))); have n1_ := Aside0.mk (below_step (by repeat (first | (with_reducible first | exact HB.out | apply below_alloc | apply pw_below_drewN | apply below_drew1) | exact HB.out)) hb); clear HB; have HO385 := n0_; have HB := n1_; clear n0_ n1_; (try clear hb); (try clear hb2); (try clear hk); (try clear hi); (try clear ho0); obtain ⟨Ao7, co7, eo7⟩ := Kd.S_slice HO385.out; subst eo7) | (go_at_call 11; (with_reducible refine (paliolaw13_Few.calls k _ _ t383 false t386 _ ?side1 ?side2 A4.out).mono ?_); (case side1 => repeat (first | exact (Kd.S_reads' HO385.out).2.2 | (with_reducible refine Kd.C_alloc ?_ _) | (with_reducible refine Kd.C_drewN ?_ _) | (with_reducible refine Kd.C_drew ?_))); (case side2 => exact (Kd.S_reads' HO385.out).2.1); rintro e w8 ⟨v387, rfl, ho0, hb⟩; have n0_ := Aside0.mk (Kd.S_elder' (by (with_reducible repeat (first | apply Kd.S_alloc | apply Kd.S_drewN | apply Kd.S_drew)); exact HO385.out) (Kd.S_base ho0) hb); have n1_ := Aside0.mk (Kd.S_lower (Kd.S_new' ho0 (Kd.S_lt (by (with_reducible repeat (first | apply Kd.S_alloc | apply Kd.S_drewN | apply Kd.S_drew)); exact HO385.out))) (below_size (by repeat (first | (with_reducible first | exact HB.out | apply below_alloc | apply pw_below_drewN | apply below_drew1) | exact HB.out)))); have n2_ := Aside0.mk (below_step (by repeat (first | (with_reducible first | exact HB.out | apply below_alloc | apply pw_below_drewN | apply below_drew1) | exact HB.out)) hb); clear HO385; clear HB; have HO385 := n0_; have HO388 := n1_; have HB := n2_; clear n0_ n1_ n2_; (try clear hb); (try clear hb2); (try clear hk); (try clear hi); (try clear ho0))); try go_wp2_with (first | (go_at_call 10; (with_reducible refine (paliolaw13_shown.calls (p := p) (q := q) k  t382 _ ?sideG A2.out).mono ?_); (case sideG => exact HGG.out.on (by repeat (first | (with_reducible first | exact HB.out | apply below_alloc | apply pw_below_drewN | apply below_drew1) | exact HB.out))); rintro e w5 ⟨rfl, hb⟩; have n0_ := Aside0.mk (below_step (by repeat (first | (with_reducible first | exact HB.out | apply below_alloc | apply pw_below_drewN | apply below_drew1) | exact HB.out)) hb); clear HB; have HB := n0_; clear n0_; (try clear hb); (try clear hb2); (try clear hk); (try clear hi)) | (go_at_call 11; (with_reducible refine (paliolaw13_Few.calls k _ _ l0 true t383 _ ?side1 ?side2 A3.out).mono ?_); (case side1 => repeat (first | exact (Kd.C_below HR0.out HB.out) | (with_reducible refine Kd.C_alloc ?_ _) | (with_reducible refine Kd.C_drewN ?_ _) | (with_reducible refine Kd.C_drew ?_))); (case side2 => exact HC0.out); rintro e w6 ⟨v384, rfl, ho0, hb⟩; have n0_ := Aside0.mk (Kd.S_lower ho0 (below_size (by repeat (first | (with_reducible first | exact HB.out | apply below_alloc | apply pw_below_drewN | apply below_drew1) | exact HB.out)))); have n1_ := Aside0.mk (below_step (by repeat (first | (with_reducible first | exact HB.out | apply below_alloc | apply pw_below_drewN | apply below_drew1) | exact HB.out)) hb); clear HB; have HO385 := n0_; have HB := n1_; clear n0_ n1_; (try clear hb); (try clear hb2); (try clear hk); (try clear hi); (try clear ho0); obtain ⟨Ao7, co7, eo7⟩ := Kd.S_slice HO385.out; subst eo7) | (go_at_call 11; (with_reducible refine (paliolaw13_Few.calls k _ _ t383 false t386 _ ?side1 ?side2 A4.out).mono ?_); (case side1 => repeat (first | exact (Kd.S_reads' HO385.out).2.2 | (with_reducible refine Kd.C_alloc ?_ _) | (with_reducible refine Kd.C_drewN ?_ _) | (with_reducible refine Kd.C_drew ?_))); (case side2 => exact (Kd.S_reads' HO385.out).2.1); rintro e w8 ⟨v387, rfl, ho0, hb⟩; have n0_ := Aside0.mk (Kd.S_elder' (by (with_reducible repeat (first | apply Kd.S_alloc | apply Kd.S_drewN | apply Kd.S_drew)); exact HO385.out) (Kd.S_base ho0) hb); have n1_ := Aside0.mk (Kd.S_lower (Kd.S_new' ho0 (Kd.S_lt (by (with_reducible repeat (first | apply Kd.S_alloc | apply Kd.S_drewN | apply Kd.S_drew)); exact HO385.out))) (below_size (by repeat (first | (with_reducible first | exact HB.out | apply below_alloc | apply pw_below_drewN | apply below_drew1) | exact HB.out)))); have n2_ := Aside0.mk (below_step (by repeat (first | (with_reducible first | exact HB.out | apply below_alloc | apply pw_below_drewN | apply below_drew1) | exact HB.out)) hb); clear HO385; clear HB; have HO385 := n0_; have HO388 := n1_; have HB := n2_; clear n0_ n1_ n2_; (try clear hb); (try clear hb2); (try clear hk); (try clear hi); (try clear ho0))))
  go_loopg [5, 6] k (fun kq v5 v6 w' => ∃ (x5_1 : List Int) (x6_1 : Int), v6 = .int .i64 x6_1 ∧ Aside0 (paliolaw13_AlgebraOwn.l0 kq t383 t382 t386 x5_1 x6_1 = some r) ∧ Aside0 (kq ≤ k) ∧ Aside0 (Kd.S (Kd.slice 36 k36) 26 w' w.heap.size (fun k_ => some k_ ≠ (v387 : Value).ownBlock) (.slice Ao7 t383.length co7) t383) ∧ Aside0 (Kd.S (Kd.slice 36 k36) 26 w' w.heap.size (fun k_ => some k_ ≠ ((.slice Ao7 t383.length co7) : Value).ownBlock) v387 t386) ∧ Aside0 (Kd.R (Kd.int .i64) 2 w' w.heap.size (fun _ => True) v5 x5_1) ∧ Aside0 (Below w.heap.size w w'))
  case atStart => exact ⟨(([] : List Int)), (0), (by first | rfl | (simp; done) | (simp [*]; done)), H', ⟨Nat.le_refl _⟩, ⟨by (with_reducible repeat (first | apply Kd.S_alloc | apply Kd.S_drewN | apply Kd.S_drew)); exact Kd.S_mono HO385.out (fun _ hk => hk.2)⟩, ⟨by (with_reducible repeat (first | apply Kd.S_alloc | apply Kd.S_drewN | apply Kd.S_drew)); exact Kd.S_mono HO388.out (fun _ hk => hk.2)⟩, ⟨by first | exact Kd.R_nil _ _ _ _ _ | exact Kd.N_nil _ _ _ _ _ | exact Kd.V_nil _ _ _ _ _ | exact Kd.Q_nil _ _ _ _ _ | exact Kd.S_nil _ _ _ _ _⟩, ⟨by repeat (first | (with_reducible first | exact HB.out | apply below_alloc | apply pw_below_drewN | apply below_drew1) | exact HB.out)⟩⟩
  case round =>
    clear H'
    try clear p2
    try clear c7
    obtain ⟨x5_1, x6_1, rfl, HA, HK1, HO_0, HO_4, HO_5, HB⟩ := hrel
    cases gk with
    | zero => exact absurd HA.out (by simp [paliolaw13_AlgebraOwn.l0])
    | succ k1 =>
      have H := HA.out
      clear HA
      simp only [paliolaw13_AlgebraOwn.l0] at H
      by_cases c9 : x6_1 < (t383.length : Int)
      · rw [if_pos c9] at H
        have c9b0 : decide (x6_1 < (t383.length : Int)) = true := decide_eq_true c9
        clear c9
        by_cases c10 : x5_1.length < 17592186044416
        · rw [if_pos c10] at H
          have LMc10 := Aside0.mk c10
          clear c10
          obtain ⟨y389, hy389⟩ : ∃ y_ : List Int, y_ = (x5_1 ++ [1]) := ⟨_, rfl⟩
          replace H : (paliolaw13_AlgebraOwn.l0 k1 t383 t382 t386 y389 (wrap64 (x6_1 + 1))) = some r := by first | (rw [hy389]; with_reducible exact H) | (have H2_ := (Option.bind_some _ _).symm.trans H; rw [hy389]; with_reducible exact H2_) | (have H2_ := (Option.bind_some _ _).symm.trans H; with_reducible exact H2_) | with_reducible exact H | (rw [hy389]; exact H) | exact H
          have Ny389 := Aside0.mk hy389
          clear hy389
          have H' := Aside0.mk H
          clear H
          go_wp2_with (first | ((with_reducible refine gate_builtin (b := .append) (xs := #[.tmp 28, .tmp 29]) rfl ?_); at_builtin; refine Kd.R_append (Kd.int .i64) (w0 := w) w.heap.size rfl (.tmp 28) (.tmp 29) 23 2 (.int .i64 0) 8 rfl Tryd.underlying23 info2 rfl (by decide) (by omega) u5 x5_1 1 [.int .i64 1] (fun _ => True) (fun _ => False) rfl rfl ?aP (fun _ hk => hk.elim) ?aF ?aO ?aB ?aS ?aL ?_; (case aP => exact rfl); (case aB => exact (by repeat (first | (with_reducible first | exact HB.out | apply below_alloc | apply pw_below_drewN | apply below_drew1) | exact HB.out))); (case aF => exact (fun _ _ => trivial)); (case aO => exact (by (with_reducible repeat (first | apply Kd.R_alloc | apply Kd.R_drewN | apply Kd.R_drew)); exact HO_5.out)); (case aS => exact (below_size (by repeat (first | (with_reducible first | exact HB.out | apply below_alloc | apply pw_below_drewN | apply below_drew1) | exact HB.out)))); (case aL => have := LMc10.out; omega); intro v390 w11 ho hb hg hat; rw [← Ny389.out] at ho; have n0_ := Aside0.mk (Kd.S_over' (by (with_reducible repeat (first | apply Kd.S_alloc | apply Kd.S_drewN | apply Kd.S_drew)); exact HO_0.out) (Kd.R_typed (by (with_reducible repeat (first | apply Kd.R_alloc | apply Kd.R_drewN | apply Kd.R_drew)); exact HO_5.out)) (by decide) hg); have n1_ := Aside0.mk (Kd.S_over' (by (with_reducible repeat (first | apply Kd.S_alloc | apply Kd.S_drewN | apply Kd.S_drew)); exact HO_4.out) (Kd.R_typed (by (with_reducible repeat (first | apply Kd.R_alloc | apply Kd.R_drewN | apply Kd.R_drew)); exact HO_5.out)) (by decide) hg); have n2_ := Aside0.mk (hb); have n3_ := Aside0.mk (ho); clear HO_0; clear HO_4; clear HB; clear HO_5; have HO_0 := n0_; have HO_4 := n1_; have HB := n2_; have HO391 := n3_; clear n0_ n1_ n2_ n3_; clear ho hb hg hat))
          repeat (go_quiet (first | ((with_reducible refine gate_builtin (b := .append) (xs := #[.tmp 28, .tmp 29]) rfl ?_); at_builtin; refine Kd.R_append (Kd.int .i64) (w0 := w) w.heap.size rfl (.tmp 28) (.tmp 29) 23 2 (.int .i64 0) 8 rfl Tryd.underlying23 info2 rfl (by decide) (by omega) u5 x5_1 1 [.int .i64 1] (fun _ => True) (fun _ => False) rfl rfl ?aP (fun _ hk => hk.elim) ?aF ?aO ?aB ?aS ?aL ?_; (case aP => exact rfl); (case aB => exact (by repeat (first | (with_reducible first | exact HB.out | apply below_alloc | apply pw_below_drewN | apply below_drew1) | exact HB.out))); (case aF => exact (fun _ _ => trivial)); (case aO => exact (by (with_reducible repeat (first | apply Kd.R_alloc | apply Kd.R_drewN | apply Kd.R_drew)); exact HO_5.out)); (case aS => exact (below_size (by repeat (first | (with_reducible first | exact HB.out | apply below_alloc | apply pw_below_drewN | apply below_drew1) | exact HB.out)))); (case aL => have := LMc10.out; omega); intro v390 w11 ho hb hg hat; rw [← Ny389.out] at ho; have n0_ := Aside0.mk (Kd.S_over' (by (with_reducible repeat (first | apply Kd.S_alloc | apply Kd.S_drewN | apply Kd.S_drew)); exact HO_0.out) (Kd.R_typed (by (with_reducible repeat (first | apply Kd.R_alloc | apply Kd.R_drewN | apply Kd.R_drew)); exact HO_5.out)) (by decide) hg); have n1_ := Aside0.mk (Kd.S_over' (by (with_reducible repeat (first | apply Kd.S_alloc | apply Kd.S_drewN | apply Kd.S_drew)); exact HO_4.out) (Kd.R_typed (by (with_reducible repeat (first | apply Kd.R_alloc | apply Kd.R_drewN | apply Kd.R_drew)); exact HO_5.out)) (by decide) hg); have n2_ := Aside0.mk (hb); have n3_ := Aside0.mk (ho); clear HO_0; clear HO_4; clear HB; clear HO_5; have HO_0 := n0_; have HO_4 := n1_; have HB := n2_; have HO391 := n3_; clear n0_ n1_ n2_ n3_; clear ho hb hg hat)); try go_wp2_with (first | ((with_reducible refine gate_builtin (b := .append) (xs := #[.tmp 28, .tmp 29]) rfl ?_); at_builtin; refine Kd.R_append (Kd.int .i64) (w0 := w) w.heap.size rfl (.tmp 28) (.tmp 29) 23 2 (.int .i64 0) 8 rfl Tryd.underlying23 info2 rfl (by decide) (by omega) u5 x5_1 1 [.int .i64 1] (fun _ => True) (fun _ => False) rfl rfl ?aP (fun _ hk => hk.elim) ?aF ?aO ?aB ?aS ?aL ?_; (case aP => exact rfl); (case aB => exact (by repeat (first | (with_reducible first | exact HB.out | apply below_alloc | apply pw_below_drewN | apply below_drew1) | exact HB.out))); (case aF => exact (fun _ _ => trivial)); (case aO => exact (by (with_reducible repeat (first | apply Kd.R_alloc | apply Kd.R_drewN | apply Kd.R_drew)); exact HO_5.out)); (case aS => exact (below_size (by repeat (first | (with_reducible first | exact HB.out | apply below_alloc | apply pw_below_drewN | apply below_drew1) | exact HB.out)))); (case aL => have := LMc10.out; omega); intro v390 w11 ho hb hg hat; rw [← Ny389.out] at ho; have n0_ := Aside0.mk (Kd.S_over' (by (with_reducible repeat (first | apply Kd.S_alloc | apply Kd.S_drewN | apply Kd.S_drew)); exact HO_0.out) (Kd.R_typed (by (with_reducible repeat (first | apply Kd.R_alloc | apply Kd.R_drewN | apply Kd.R_drew)); exact HO_5.out)) (by decide) hg); have n1_ := Aside0.mk (Kd.S_over' (by (with_reducible repeat (first | apply Kd.S_alloc | apply Kd.S_drewN | apply Kd.S_drew)); exact HO_4.out) (Kd.R_typed (by (with_reducible repeat (first | apply Kd.R_alloc | apply Kd.R_drewN | apply Kd.R_drew)); exact HO_5.out)) (by decide) hg); have n2_ := Aside0.mk (hb); have n3_ := Aside0.mk (ho); clear HO_0; clear HO_4; clear HB; clear HO_5; have HO_0 := n0_; have HO_4 := n1_; have HB := n2_; have HO391 := n3_; clear n0_ n1_ n2_ n3_; clear ho hb hg hat)))
          go_roundg k1
          case measure => have := HK1.out; omega
          case rel => exact ⟨(y389), (wrap64 (x6_1 + 1)), (by first | rfl | (simp; done) | (simp [*]; done)), H', ⟨by have := HK1.out; omega⟩, ⟨by (with_reducible repeat (first | apply Kd.S_alloc | apply Kd.S_drewN | apply Kd.S_drew)); exact HO_0.out⟩, ⟨by (with_reducible repeat (first | apply Kd.S_alloc | apply Kd.S_drewN | apply Kd.S_drew)); exact HO_4.out⟩, ⟨by (with_reducible repeat (first | apply Kd.R_alloc | apply Kd.R_drewN | apply Kd.R_drew)); exact HO391.out⟩, ⟨by repeat (first | (with_reducible first | exact HB.out | apply below_alloc | apply pw_below_drewN | apply below_drew1) | exact HB.out)⟩⟩
        · rw [if_neg c10] at H
          exact absurd H (by simp)
      · rw [if_neg c9] at H
        have c9b0 : decide (x6_1 < (t383.length : Int)) = false := decide_eq_false c9
        clear c9
        replace H := Option.bind_eq_some_iff.mp H
        obtain ⟨⟨t392, t393⟩, A120, H⟩ := H
        replace H : ((algebra_Inter.f t383 x5_1 3).bind fun bt396 => ((algebra_Diff.f t383).bind fun bt400 => (paliolaw13_AlgebraOwn.l1 k1 t383 t382 t386 t392 bt396.1 bt400.1 0))) = some r := H
        have A12 := Aside0.mk A120
        clear A120
        replace H := Option.bind_eq_some_iff.mp H
        obtain ⟨⟨t396, t397⟩, A130, H⟩ := H
        replace H : ((algebra_Diff.f t383).bind fun bt400 => (paliolaw13_AlgebraOwn.l1 k1 t383 t382 t386 t392 t396 bt400.1 0)) = some r := H
        have A13 := Aside0.mk A130
        clear A130
        replace H := Option.bind_eq_some_iff.mp H
        obtain ⟨⟨t400, t401⟩, A140, H⟩ := H
        replace H : (paliolaw13_AlgebraOwn.l1 k1 t383 t382 t386 t392 t396 t400 0) = some r := H
        have A14 := Aside0.mk A140
        clear A140
        have H' := Aside0.mk H
        clear H
        obtain ⟨Ao15, co15, eo15⟩ := Kd.R_slice HO_5.out
        subst eo15
        go_wp2_with (first | (go_at_call 12; (with_reducible refine (algebra_Union.calls (p := p) (q := q) _ _ t383 _ _ x5_1 3 t392 t393 _ ?side1 ?side2 ?side3 ?side4 ?sideG A12.out).mono ?_); (case sideG => exact HGG.out.on (by repeat (first | (with_reducible first | exact HB.out | apply below_alloc | apply pw_below_drewN | apply below_drew1) | exact HB.out))); (case side1 => repeat (first | exact (Kd.S_reads' HO_0.out).2.2 | (with_reducible refine Kd.C_alloc ?_ _) | (with_reducible refine Kd.C_drewN ?_ _) | (with_reducible refine Kd.C_drew ?_))); (case side2 => exact (Kd.S_reads' HO_0.out).2.1); (case side3 => repeat (first | exact (Kd.R_reads' HO_5.out).2.2 | (with_reducible refine Kd.C_alloc ?_ _) | (with_reducible refine Kd.C_drewN ?_ _) | (with_reducible refine Kd.C_drew ?_))); (case side4 => exact (Kd.R_reads' HO_5.out).2.1); rintro e w16 ⟨v394, rfl, ho0, hb⟩; have n0_ := Aside0.mk (Kd.S_elder' (by (with_reducible repeat (first | apply Kd.S_alloc | apply Kd.S_drewN | apply Kd.S_drew)); exact HO_0.out) (Kd.R_base ho0) hb); have n1_ := Aside0.mk (Kd.S_elder' (by (with_reducible repeat (first | apply Kd.S_alloc | apply Kd.S_drewN | apply Kd.S_drew)); exact HO_4.out) (Kd.R_base ho0) hb); have n2_ := Aside0.mk (Kd.R_below (by (with_reducible repeat (first | apply Kd.R_alloc | apply Kd.R_drewN | apply Kd.R_drew)); exact HO_5.out) hb); have n3_ := Aside0.mk (Kd.R_lower ho0 (below_size (by repeat (first | (with_reducible first | exact HB.out | apply below_alloc | apply pw_below_drewN | apply below_drew1) | exact HB.out)))); have n4_ := Aside0.mk (below_step (by repeat (first | (with_reducible first | exact HB.out | apply below_alloc | apply pw_below_drewN | apply below_drew1) | exact HB.out)) hb); clear HO_0; clear HO_4; clear HO_5; clear HB; have HO_0 := n0_; have HO_4 := n1_; have HO_5 := n2_; have HO395 := n3_; have HB := n4_; clear n0_ n1_ n2_ n3_ n4_; (try clear hb); (try clear hb2); (try clear hk); (try clear hi); (try clear ho0)) | (go_at_call 14; (with_reducible refine (algebra_Inter.calls (p := p) (q := q) _ _ t383 _ _ x5_1 3 t396 t397 _ ?side1 ?side2 ?side3 ?side4 ?sideG A13.out).mono ?_); (case sideG => exact HGG.out.on (by repeat (first | (with_reducible first | exact HB.out | apply below_alloc | apply pw_below_drewN | apply below_drew1) | exact HB.out))); (case side1 => repeat (first | exact (Kd.S_reads' HO_0.out).2.2 | (with_reducible refine Kd.C_alloc ?_ _) | (with_reducible refine Kd.C_drewN ?_ _) | (with_reducible refine Kd.C_drew ?_))); (case side2 => exact (Kd.S_reads' HO_0.out).2.1); (case side3 => repeat (first | exact (Kd.R_reads' HO_5.out).2.2 | (with_reducible refine Kd.C_alloc ?_ _) | (with_reducible refine Kd.C_drewN ?_ _) | (with_reducible refine Kd.C_drew ?_))); (case side4 => exact (Kd.R_reads' HO_5.out).2.1); rintro e w17 ⟨v398, rfl, ho0, hb⟩; have n0_ := Aside0.mk (Kd.S_elder' (by (with_reducible repeat (first | apply Kd.S_alloc | apply Kd.S_drewN | apply Kd.S_drew)); exact HO_0.out) (Kd.R_base ho0) hb); have n1_ := Aside0.mk (Kd.S_elder' (by (with_reducible repeat (first | apply Kd.S_alloc | apply Kd.S_drewN | apply Kd.S_drew)); exact HO_4.out) (Kd.R_base ho0) hb); have n2_ := Aside0.mk (Kd.R_below (by (with_reducible repeat (first | apply Kd.R_alloc | apply Kd.R_drewN | apply Kd.R_drew)); exact HO_5.out) hb); have n3_ := Aside0.mk (Kd.R_elder' (by (with_reducible repeat (first | apply Kd.R_alloc | apply Kd.R_drewN | apply Kd.R_drew)); exact HO395.out) (Kd.R_base ho0) hb); have n4_ := Aside0.mk (Kd.R_lower (Kd.R_new' ho0 (Kd.R_lt (by (with_reducible repeat (first | apply Kd.R_alloc | apply Kd.R_drewN | apply Kd.R_drew)); exact HO395.out))) (below_size (by repeat (first | (with_reducible first | exact HB.out | apply below_alloc | apply pw_below_drewN | apply below_drew1) | exact HB.out)))); have n5_ := Aside0.mk (below_step (by repeat (first | (with_reducible first | exact HB.out | apply below_alloc | apply pw_below_drewN | apply below_drew1) | exact HB.out)) hb); clear HO_0; clear HO_4; clear HO_5; clear HO395; clear HB; have HO_0 := n0_; have HO_4 := n1_; have HO_5 := n2_; have HO395 := n3_; have HO399 := n4_; have HB := n5_; clear n0_ n1_ n2_ n3_ n4_ n5_; (try clear hb); (try clear hb2); (try clear hk); (try clear hi); (try clear ho0)) | (go_at_call 16; (with_reducible refine (algebra_Diff.calls (p := p) (q := q) _ _ t383 t400 t401 _ ?side1 ?side2 ?sideG A14.out).mono ?_); (case sideG => exact HGG.out.on (by repeat (first | (with_reducible first | exact HB.out | apply below_alloc | apply pw_below_drewN | apply below_drew1) | exact HB.out))); (case side1 => repeat (first | exact (Kd.S_reads' HO_0.out).2.2 | (with_reducible refine Kd.C_alloc ?_ _) | (with_reducible refine Kd.C_drewN ?_ _) | (with_reducible refine Kd.C_drew ?_))); (case side2 => exact (Kd.S_reads' HO_0.out).2.1); rintro e w18 ⟨v402, rfl, ho0, hb⟩; have n0_ := Aside0.mk (Kd.S_elder' (by (with_reducible repeat (first | apply Kd.S_alloc | apply Kd.S_drewN | apply Kd.S_drew)); exact HO_0.out) (Kd.R_base ho0) hb); have n1_ := Aside0.mk (Kd.S_elder' (by (with_reducible repeat (first | apply Kd.S_alloc | apply Kd.S_drewN | apply Kd.S_drew)); exact HO_4.out) (Kd.R_base ho0) hb); have n2_ := Aside0.mk (Kd.R_below (by (with_reducible repeat (first | apply Kd.R_alloc | apply Kd.R_drewN | apply Kd.R_drew)); exact HO_5.out) hb); have n3_ := Aside0.mk (Kd.R_elder' (by (with_reducible repeat (first | apply Kd.R_alloc | apply Kd.R_drewN | apply Kd.R_drew)); exact HO395.out) (Kd.R_base ho0) hb); have n4_ := Aside0.mk (Kd.R_elder' (by (with_reducible repeat (first | apply Kd.R_alloc | apply Kd.R_drewN | apply Kd.R_drew)); exact HO399.out) (Kd.R_base ho0) hb); have n5_ := Aside0.mk (Kd.R_lower (Kd.R_new' (Kd.R_new' ho0 (Kd.R_lt (by (with_reducible repeat (first | apply Kd.R_alloc | apply Kd.R_drewN | apply Kd.R_drew)); exact HO395.out))) (Kd.R_lt (by (with_reducible repeat (first | apply Kd.R_alloc | apply Kd.R_drewN | apply Kd.R_drew)); exact HO399.out))) (below_size (by repeat (first | (with_reducible first | exact HB.out | apply below_alloc | apply pw_below_drewN | apply below_drew1) | exact HB.out)))); have n6_ := Aside0.mk (below_step (by repeat (first | (with_reducible first | exact HB.out | apply below_alloc | apply pw_below_drewN | apply below_drew1) | exact HB.out)) hb); clear HO_0; clear HO_4; clear HO_5; clear HO395; clear HO399; clear HB; have HO_0 := n0_; have HO_4 := n1_; have HO_5 := n2_; have HO395 := n3_; have HO399 := n4_; have HO403 := n5_; have HB := n6_; clear n0_ n1_ n2_ n3_ n4_ n5_ n6_; (try clear hb); (try clear hb2); (try clear hk); (try clear hi); (try clear ho0)))
        repeat (go_quiet (first | (go_at_call 12; (with_reducible refine (algebra_Union.calls (p := p) (q := q) _ _ t383 _ _ x5_1 3 t392 t393 _ ?side1 ?side2 ?side3 ?side4 ?sideG A12.out).mono ?_); (case sideG => exact HGG.out.on (by repeat (first | (with_reducible first | exact HB.out | apply below_alloc | apply pw_below_drewN | apply below_drew1) | exact HB.out))); (case side1 => repeat (first | exact (Kd.S_reads' HO_0.out).2.2 | (with_reducible refine Kd.C_alloc ?_ _) | (with_reducible refine Kd.C_drewN ?_ _) | (with_reducible refine Kd.C_drew ?_))); (case side2 => exact (Kd.S_reads' HO_0.out).2.1); (case side3 => repeat (first | exact (Kd.R_reads' HO_5.out).2.2 | (with_reducible refine Kd.C_alloc ?_ _) | (with_reducible refine Kd.C_drewN ?_ _) | (with_reducible refine Kd.C_drew ?_))); (case side4 => exact (Kd.R_reads' HO_5.out).2.1); rintro e w16 ⟨v394, rfl, ho0, hb⟩; have n0_ := Aside0.mk (Kd.S_elder' (by (with_reducible repeat (first | apply Kd.S_alloc | apply Kd.S_drewN | apply Kd.S_drew)); exact HO_0.out) (Kd.R_base ho0) hb); have n1_ := Aside0.mk (Kd.S_elder' (by (with_reducible repeat (first | apply Kd.S_alloc | apply Kd.S_drewN | apply Kd.S_drew)); exact HO_4.out) (Kd.R_base ho0) hb); have n2_ := Aside0.mk (Kd.R_below (by (with_reducible repeat (first | apply Kd.R_alloc | apply Kd.R_drewN | apply Kd.R_drew)); exact HO_5.out) hb); have n3_ := Aside0.mk (Kd.R_lower ho0 (below_size (by repeat (first | (with_reducible first | exact HB.out | apply below_alloc | apply pw_below_drewN | apply below_drew1) | exact HB.out)))); have n4_ := Aside0.mk (below_step (by repeat (first | (with_reducible first | exact HB.out | apply below_alloc | apply pw_below_drewN | apply below_drew1) | exact HB.out)) hb); clear HO_0; clear HO_4; clear HO_5; clear HB; have HO_0 := n0_; have HO_4 := n1_; have HO_5 := n2_; have HO395 := n3_; have HB := n4_; clear n0_ n1_ n2_ n3_ n4_; (try clear hb); (try clear hb2); (try clear hk); (try clear hi); (try clear ho0)) | (go_at_call 14; (with_reducible refine (algebra_Inter.calls (p := p) (q := q) _ _ t383 _ _ x5_1 3 t396 t397 _ ?side1 ?side2 ?side3 ?side4 ?sideG A13.out).mono ?_); (case sideG => exact HGG.out.on (by repeat (first | (with_reducible first | exact HB.out | apply below_alloc | apply pw_below_drewN | apply below_drew1) | exact HB.out))); (case side1 => repeat (first | exact (Kd.S_reads' HO_0.out).2.2 | (with_reducible refine Kd.C_alloc ?_ _) | (with_reducible refine Kd.C_drewN ?_ _) | (with_reducible refine Kd.C_drew ?_))); (case side2 => exact (Kd.S_reads' HO_0.out).2.1); (case side3 => repeat (first | exact (Kd.R_reads' HO_5.out).2.2 | (with_reducible refine Kd.C_alloc ?_ _) | (with_reducible refine Kd.C_drewN ?_ _) | (with_reducible refine Kd.C_drew ?_))); (case side4 => exact (Kd.R_reads' HO_5.out).2.1); rintro e w17 ⟨v398, rfl, ho0, hb⟩; have n0_ := Aside0.mk (Kd.S_elder' (by (with_reducible repeat (first | apply Kd.S_alloc | apply Kd.S_drewN | apply Kd.S_drew)); exact HO_0.out) (Kd.R_base ho0) hb); have n1_ := Aside0.mk (Kd.S_elder' (by (with_reducible repeat (first | apply Kd.S_alloc | apply Kd.S_drewN | apply Kd.S_drew)); exact HO_4.out) (Kd.R_base ho0) hb); have n2_ := Aside0.mk (Kd.R_below (by (with_reducible repeat (first | apply Kd.R_alloc | apply Kd.R_drewN | apply Kd.R_drew)); exact HO_5.out) hb); have n3_ := Aside0.mk (Kd.R_elder' (by (with_reducible repeat (first | apply Kd.R_alloc | apply Kd.R_drewN | apply Kd.R_drew)); exact HO395.out) (Kd.R_base ho0) hb); have n4_ := Aside0.mk (Kd.R_lower (Kd.R_new' ho0 (Kd.R_lt (by (with_reducible repeat (first | apply Kd.R_alloc | apply Kd.R_drewN | apply Kd.R_drew)); exact HO395.out))) (below_size (by repeat (first | (with_reducible first | exact HB.out | apply below_alloc | apply pw_below_drewN | apply below_drew1) | exact HB.out)))); have n5_ := Aside0.mk (below_step (by repeat (first | (with_reducible first | exact HB.out | apply below_alloc | apply pw_below_drewN | apply below_drew1) | exact HB.out)) hb); clear HO_0; clear HO_4; clear HO_5; clear HO395; clear HB; have HO_0 := n0_; have HO_4 := n1_; have HO_5 := n2_; have HO395 := n3_; have HO399 := n4_; have HB := n5_; clear n0_ n1_ n2_ n3_ n4_ n5_; (try clear hb); (try clear hb2); (try clear hk); (try clear hi); (try clear ho0)) | (go_at_call 16; (with_reducible refine (algebra_Diff.calls (p := p) (q := q) _ _ t383 t400 t401 _ ?side1 ?side2 ?sideG A14.out).mono ?_); (case sideG => exact HGG.out.on (by repeat (first | (with_reducible first | exact HB.out | apply below_alloc | apply pw_below_drewN | apply below_drew1) | exact HB.out))); (case side1 => repeat (first | exact (Kd.S_reads' HO_0.out).2.2 | (with_reducible refine Kd.C_alloc ?_ _) | (with_reducible refine Kd.C_drewN ?_ _) | (with_reducible refine Kd.C_drew ?_))); (case side2 => exact (Kd.S_reads' HO_0.out).2.1); rintro e w18 ⟨v402, rfl, ho0, hb⟩; have n0_ := Aside0.mk (Kd.S_elder' (by (with_reducible repeat (first | apply Kd.S_alloc | apply Kd.S_drewN | apply Kd.S_drew)); exact HO_0.out) (Kd.R_base ho0) hb); have n1_ := Aside0.mk (Kd.S_elder' (by (with_reducible repeat (first | apply Kd.S_alloc | apply Kd.S_drewN | apply Kd.S_drew)); exact HO_4.out) (Kd.R_base ho0) hb); have n2_ := Aside0.mk (Kd.R_below (by (with_reducible repeat (first | apply Kd.R_alloc | apply Kd.R_drewN | apply Kd.R_drew)); exact HO_5.out) hb); have n3_ := Aside0.mk (Kd.R_elder' (by (with_reducible repeat (first | apply Kd.R_alloc | apply Kd.R_drewN | apply Kd.R_drew)); exact HO395.out) (Kd.R_base ho0) hb); have n4_ := Aside0.mk (Kd.R_elder' (by (with_reducible repeat (first | apply Kd.R_alloc | apply Kd.R_drewN | apply Kd.R_drew)); exact HO399.out) (Kd.R_base ho0) hb); have n5_ := Aside0.mk (Kd.R_lower (Kd.R_new' (Kd.R_new' ho0 (Kd.R_lt (by (with_reducible repeat (first | apply Kd.R_alloc | apply Kd.R_drewN | apply Kd.R_drew)); exact HO395.out))) (Kd.R_lt (by (with_reducible repeat (first | apply Kd.R_alloc | apply Kd.R_drewN | apply Kd.R_drew)); exact HO399.out))) (below_size (by repeat (first | (with_reducible first | exact HB.out | apply below_alloc | apply pw_below_drewN | apply below_drew1) | exact HB.out)))); have n6_ := Aside0.mk (below_step (by repeat (first | (with_reducible first | exact HB.out | apply below_alloc | apply pw_below_drewN | apply below_drew1) | exact HB.out)) hb); clear HO_0; clear HO_4; clear HO_5; clear HO395; clear HO399; clear HB; have HO_0 := n0_; have HO_4 := n1_; have HO_5 := n2_; have HO395 := n3_; have HO399 := n4_; have HO403 := n5_; have HB := n6_; clear n0_ n1_ n2_ n3_ n4_ n5_ n6_; (try clear hb); (try clear hb2); (try clear hk); (try clear hi); (try clear ho0))); try go_wp2_with (first | (go_at_call 12; (with_reducible refine (algebra_Union.calls (p := p) (q := q) _ _ t383 _ _ x5_1 3 t392 t393 _ ?side1 ?side2 ?side3 ?side4 ?sideG A12.out).mono ?_); (case sideG => exact HGG.out.on (by repeat (first | (with_reducible first | exact HB.out | apply below_alloc | apply pw_below_drewN | apply below_drew1) | exact HB.out))); (case side1 => repeat (first | exact (Kd.S_reads' HO_0.out).2.2 | (with_reducible refine Kd.C_alloc ?_ _) | (with_reducible refine Kd.C_drewN ?_ _) | (with_reducible refine Kd.C_drew ?_))); (case side2 => exact (Kd.S_reads' HO_0.out).2.1); (case side3 => repeat (first | exact (Kd.R_reads' HO_5.out).2.2 | (with_reducible refine Kd.C_alloc ?_ _) | (with_reducible refine Kd.C_drewN ?_ _) | (with_reducible refine Kd.C_drew ?_))); (case side4 => exact (Kd.R_reads' HO_5.out).2.1); rintro e w16 ⟨v394, rfl, ho0, hb⟩; have n0_ := Aside0.mk (Kd.S_elder' (by (with_reducible repeat (first | apply Kd.S_alloc | apply Kd.S_drewN | apply Kd.S_drew)); exact HO_0.out) (Kd.R_base ho0) hb); have n1_ := Aside0.mk (Kd.S_elder' (by (with_reducible repeat (first | apply Kd.S_alloc | apply Kd.S_drewN | apply Kd.S_drew)); exact HO_4.out) (Kd.R_base ho0) hb); have n2_ := Aside0.mk (Kd.R_below (by (with_reducible repeat (first | apply Kd.R_alloc | apply Kd.R_drewN | apply Kd.R_drew)); exact HO_5.out) hb); have n3_ := Aside0.mk (Kd.R_lower ho0 (below_size (by repeat (first | (with_reducible first | exact HB.out | apply below_alloc | apply pw_below_drewN | apply below_drew1) | exact HB.out)))); have n4_ := Aside0.mk (below_step (by repeat (first | (with_reducible first | exact HB.out | apply below_alloc | apply pw_below_drewN | apply below_drew1) | exact HB.out)) hb); clear HO_0; clear HO_4; clear HO_5; clear HB; have HO_0 := n0_; have HO_4 := n1_; have HO_5 := n2_; have HO395 := n3_; have HB := n4_; clear n0_ n1_ n2_ n3_ n4_; (try clear hb); (try clear hb2); (try clear hk); (try clear hi); (try clear ho0)) | (go_at_call 14; (with_reducible refine (algebra_Inter.calls (p := p) (q := q) _ _ t383 _ _ x5_1 3 t396 t397 _ ?side1 ?side2 ?side3 ?side4 ?sideG A13.out).mono ?_); (case sideG => exact HGG.out.on (by repeat (first | (with_reducible first | exact HB.out | apply below_alloc | apply pw_below_drewN | apply below_drew1) | exact HB.out))); (case side1 => repeat (first | exact (Kd.S_reads' HO_0.out).2.2 | (with_reducible refine Kd.C_alloc ?_ _) | (with_reducible refine Kd.C_drewN ?_ _) | (with_reducible refine Kd.C_drew ?_))); (case side2 => exact (Kd.S_reads' HO_0.out).2.1); (case side3 => repeat (first | exact (Kd.R_reads' HO_5.out).2.2 | (with_reducible refine Kd.C_alloc ?_ _) | (with_reducible refine Kd.C_drewN ?_ _) | (with_reducible refine Kd.C_drew ?_))); (case side4 => exact (Kd.R_reads' HO_5.out).2.1); rintro e w17 ⟨v398, rfl, ho0, hb⟩; have n0_ := Aside0.mk (Kd.S_elder' (by (with_reducible repeat (first | apply Kd.S_alloc | apply Kd.S_drewN | apply Kd.S_drew)); exact HO_0.out) (Kd.R_base ho0) hb); have n1_ := Aside0.mk (Kd.S_elder' (by (with_reducible repeat (first | apply Kd.S_alloc | apply Kd.S_drewN | apply Kd.S_drew)); exact HO_4.out) (Kd.R_base ho0) hb); have n2_ := Aside0.mk (Kd.R_below (by (with_reducible repeat (first | apply Kd.R_alloc | apply Kd.R_drewN | apply Kd.R_drew)); exact HO_5.out) hb); have n3_ := Aside0.mk (Kd.R_elder' (by (with_reducible repeat (first | apply Kd.R_alloc | apply Kd.R_drewN | apply Kd.R_drew)); exact HO395.out) (Kd.R_base ho0) hb); have n4_ := Aside0.mk (Kd.R_lower (Kd.R_new' ho0 (Kd.R_lt (by (with_reducible repeat (first | apply Kd.R_alloc | apply Kd.R_drewN | apply Kd.R_drew)); exact HO395.out))) (below_size (by repeat (first | (with_reducible first | exact HB.out | apply below_alloc | apply pw_below_drewN | apply below_drew1) | exact HB.out)))); have n5_ := Aside0.mk (below_step (by repeat (first | (with_reducible first | exact HB.out | apply below_alloc | apply pw_below_drewN | apply below_drew1) | exact HB.out)) hb); clear HO_0; clear HO_4; clear HO_5; clear HO395; clear HB; have HO_0 := n0_; have HO_4 := n1_; have HO_5 := n2_; have HO395 := n3_; have HO399 := n4_; have HB := n5_; clear n0_ n1_ n2_ n3_ n4_ n5_; (try clear hb); (try clear hb2); (try clear hk); (try clear hi); (try clear ho0)) | (go_at_call 16; (with_reducible refine (algebra_Diff.calls (p := p) (q := q) _ _ t383 t400 t401 _ ?side1 ?side2 ?sideG A14.out).mono ?_); (case sideG => exact HGG.out.on (by repeat (first | (with_reducible first | exact HB.out | apply below_alloc | apply pw_below_drewN | apply below_drew1) | exact HB.out))); (case side1 => repeat (first | exact (Kd.S_reads' HO_0.out).2.2 | (with_reducible refine Kd.C_alloc ?_ _) | (with_reducible refine Kd.C_drewN ?_ _) | (with_reducible refine Kd.C_drew ?_))); (case side2 => exact (Kd.S_reads' HO_0.out).2.1); rintro e w18 ⟨v402, rfl, ho0, hb⟩; have n0_ := Aside0.mk (Kd.S_elder' (by (with_reducible repeat (first | apply Kd.S_alloc | apply Kd.S_drewN | apply Kd.S_drew)); exact HO_0.out) (Kd.R_base ho0) hb); have n1_ := Aside0.mk (Kd.S_elder' (by (with_reducible repeat (first | apply Kd.S_alloc | apply Kd.S_drewN | apply Kd.S_drew)); exact HO_4.out) (Kd.R_base ho0) hb); have n2_ := Aside0.mk (Kd.R_below (by (with_reducible repeat (first | apply Kd.R_alloc | apply Kd.R_drewN | apply Kd.R_drew)); exact HO_5.out) hb); have n3_ := Aside0.mk (Kd.R_elder' (by (with_reducible repeat (first | apply Kd.R_alloc | apply Kd.R_drewN | apply Kd.R_drew)); exact HO395.out) (Kd.R_base ho0) hb); have n4_ := Aside0.mk (Kd.R_elder' (by (with_reducible repeat (first | apply Kd.R_alloc | apply Kd.R_drewN | apply Kd.R_drew)); exact HO399.out) (Kd.R_base ho0) hb); have n5_ := Aside0.mk (Kd.R_lower (Kd.R_new' (Kd.R_new' ho0 (Kd.R_lt (by (with_reducible repeat (first | apply Kd.R_alloc | apply Kd.R_drewN | apply Kd.R_drew)); exact HO395.out))) (Kd.R_lt (by (with_reducible repeat (first | apply Kd.R_alloc | apply Kd.R_drewN | apply Kd.R_drew)); exact HO399.out))) (below_size (by repeat (first | (with_reducible first | exact HB.out | apply below_alloc | apply pw_below_drewN | apply below_drew1) | exact HB.out)))); have n6_ := Aside0.mk (below_step (by repeat (first | (with_reducible first | exact HB.out | apply below_alloc | apply pw_below_drewN | apply below_drew1) | exact HB.out)) hb); clear HO_0; clear HO_4; clear HO_5; clear HO395; clear HO399; clear HB; have HO_0 := n0_; have HO_4 := n1_; have HO_5 := n2_; have HO395 := n3_; have HO399 := n4_; have HO403 := n5_; have HB := n6_; clear n0_ n1_ n2_ n3_ n4_ n5_ n6_; (try clear hb); (try clear hb2); (try clear hk); (try clear hi); (try clear ho0))))
        go_loopg [13] k1 (fun kq v13 w' => ∃ (x7_2 : List (S36)) (x13_2 : Int), v13 = .int .i64 x13_2 ∧ Aside0 (paliolaw13_AlgebraOwn.l1 kq t383 t382 t386 x7_2 t396 t400 x13_2 = some r) ∧ Aside0 (kq ≤ k1) ∧ Aside0 (Kd.S (Kd.slice 36 k36) 26 w' w.heap.size (fun k_ => some k_ ≠ (v387 : Value).ownBlock ∧ some k_ ≠ (v394 : Value).ownBlock ∧ some k_ ≠ (v398 : Value).ownBlock ∧ some k_ ≠ (v402 : Value).ownBlock) (.slice Ao7 t383.length co7) t383) ∧ Aside0 (Kd.S (Kd.slice 36 k36) 26 w' w.heap.size (fun k_ => some k_ ≠ ((.slice Ao7 t383.length co7) : Value).ownBlock ∧ some k_ ≠ (v394 : Value).ownBlock ∧ some k_ ≠ (v398 : Value).ownBlock ∧ some k_ ≠ (v402 : Value).ownBlock) v387 t386) ∧ Aside0 (Kd.R k36 36 w' w.heap.size (fun k_ => some k_ ≠ (v398 : Value).ownBlock ∧ some k_ ≠ (v402 : Value).ownBlock) v394 x7_2) ∧ Aside0 (Kd.R k36 36 w' w.heap.size (fun k_ => some k_ ≠ (v394 : Value).ownBlock ∧ some k_ ≠ (v402 : Value).ownBlock) v398 t396) ∧ Aside0 (Kd.R k36 36 w' w.heap.size (fun k_ => some k_ ≠ (v394 : Value).ownBlock ∧ some k_ ≠ (v398 : Value).ownBlock) v402 t400) ∧ Aside0 (Below w.heap.size w w'))
        case atStart => exact ⟨(t392), (0), (by first | rfl | (simp; done) | (simp [*]; done)), H', ⟨Nat.le_refl _⟩, ⟨by (with_reducible repeat (first | apply Kd.S_alloc | apply Kd.S_drewN | apply Kd.S_drew)); exact Kd.S_mono HO_0.out (fun _ hk => ⟨hk.1.1.1, ⟨hk.1.1.2, ⟨hk.1.2, hk.2⟩⟩⟩)⟩, ⟨by (with_reducible repeat (first | apply Kd.S_alloc | apply Kd.S_drewN | apply Kd.S_drew)); exact Kd.S_mono HO_4.out (fun _ hk => ⟨hk.1.1.1, ⟨hk.1.1.2, ⟨hk.1.2, hk.2⟩⟩⟩)⟩, ⟨by (with_reducible repeat (first | apply Kd.R_alloc | apply Kd.R_drewN | apply Kd.R_drew)); exact Kd.R_mono HO395.out (fun _ hk => ⟨hk.1.2, hk.2⟩)⟩, ⟨by (with_reducible repeat (first | apply Kd.R_alloc | apply Kd.R_drewN | apply Kd.R_drew)); exact Kd.R_mono HO399.out (fun _ hk => ⟨hk.1.2, hk.2⟩)⟩, ⟨by (with_reducible repeat (first | apply Kd.R_alloc | apply Kd.R_drewN | apply Kd.R_drew)); exact Kd.R_mono HO403.out (fun _ hk => ⟨hk.1.2, hk.2⟩)⟩, ⟨by repeat (first | (with_reducible first | exact HB.out | apply below_alloc | apply pw_below_drewN | apply below_drew1) | exact HB.out)⟩⟩
        case round =>
          clear H'
          try clear c1
          try clear p2
          try clear p6
          try clear c7
          try clear c9
          try clear c9b0
          try clear c10
          try clear p2
          obtain ⟨x7_2, x13_2, rfl, HA, HK2, HO_0, HO_4, HO_7, HO_9, HO_11, HB⟩ := hrel
          cases gk with
          | zero => exact absurd HA.out (by simp [paliolaw13_AlgebraOwn.l1])
          | succ k2 =>
            have H := HA.out
            clear HA
            simp only [paliolaw13_AlgebraOwn.l1] at H
            by_cases c19 : x13_2 < (x7_2.length : Int)
            · rw [if_pos c19] at H
              have c19b0 : decide (x13_2 < (x7_2.length : Int)) = true := decide_eq_true c19
              clear c19
              by_cases c20 : 0 ≤ x13_2
              · rw [if_pos c20] at H
                have c20b0 : decide (0 ≤ x13_2) = true := decide_eq_true c20
                clear c20
                obtain ⟨y404, hy404⟩ : ∃ y_ : List (S36), y_ = (x7_2.set (x13_2 : Int).toNat (⟨(rd_T36 x7_2 x13_2).f0, 77⟩ : S36)) := ⟨_, rfl⟩
                replace H : (paliolaw13_AlgebraOwn.l1 k2 t383 t382 t386 y404 t396 t400 (wrap64 (x13_2 + 1))) = some r := by first | (rw [hy404]; with_reducible exact H) | (have H2_ := (Option.bind_some _ _).symm.trans H; rw [hy404]; with_reducible exact H2_) | (have H2_ := (Option.bind_some _ _).symm.trans H; with_reducible exact H2_) | with_reducible exact H | (rw [hy404]; exact H) | exact H
                have Ny404 := Aside0.mk hy404
                clear hy404
                have H' := Aside0.mk H
                clear H
                obtain ⟨Ao22, co22, eo22⟩ := Kd.R_slice HO_7.out
                subst eo22
                have p21 : 0 ≤ (x13_2 : Int) := of_decide_eq_true (by first | (with_reducible assumption) | assumption)
                have q21 : (x13_2 : Int) < ((x7_2.length : Int) : Int) := of_decide_eq_true (by first | (with_reducible assumption) | assumption)
                obtain ⟨go21, co21, eo21, gb21, gl21, cl21, HG21⟩ := Kd.R_form HO_7.out (by omega)
                (first | cases eo21 | (injection eo21 with ea_ en_ ec_; (first | subst ea_ | (injection ea_ with ea_; subst ea_)); subst ec_; clear en_))
                have GB21 := Aside0.mk gb21
                have GG21 := Aside0.mk HG21
                clear gb21 gl21 HG21
                obtain ⟨ce21, hcl21, hM21, hcc21, hfr21⟩ := Kd.R_elem HO_7.out z36 (x13_2 : Int) p21 q21
                obtain rfl := k36_openM hM21
                have hx21_0 : wr.cell? ⟨go21, (x13_2 : Int).toNat * 2, none⟩ = some (.string ((rd_T36 x7_2 x13_2).f0)) := hcc21 0 _ rfl
                have hx21_1 : wr.cell? ⟨go21, (x13_2 : Int).toNat * 2 + 1, none⟩ = some (.int .i64 ((rd_T36 x7_2 x13_2).f1)) := hcc21 1 _ rfl
                have hf21_0 : wr.frozen? ⟨go21, (x13_2 : Int).toNat * 2, none⟩ = false := hfr21 0
                have hf21_1 : wr.frozen? ⟨go21, (x13_2 : Int).toNat * 2 + 1, none⟩ = false := hfr21 1
                clear hcl21 hcc21 hfr21 hM21
                replace p21 := eq_true p21
                replace q21 := eq_true q21
                have HX23 := Aside0.mk (show Kd.R k36 36 wr w.heap.size (fun k_ => some k_ ≠ (v398 : Value).ownBlock ∧ some k_ ≠ (v402 : Value).ownBlock) (.slice (some ⟨go21, 0, none⟩) x7_2.length co22) x7_2 from (by (with_reducible repeat (first | apply Kd.R_alloc | apply Kd.R_drewN | apply Kd.R_drew)); exact HO_7.out))
                obtain ⟨ce23, hcl23, hM23, hcc23, hfr23⟩ := Kd.R_elem HX23.out z36 (x13_2 : Int) (of_decide_eq_true (by first | (with_reducible assumption) | assumption)) (by have h_ : (x13_2 : Int) < ((x7_2.length : Int) : Int) := of_decide_eq_true (by first | (with_reducible assumption) | assumption); first | exact h_ | (have e_ := (Kd.R_reads' HO_7.out).1; omega) | simpa using h_)
                obtain rfl := k36_openM hM23
                have HP23 := Kd.R_seg HX23.out (x13_2 : Int) (of_decide_eq_true (by first | (with_reducible assumption) | assumption)) (by have h_ : (x13_2 : Int) < ((x7_2.length : Int) : Int) := of_decide_eq_true (by first | (with_reducible assumption) | assumption); first | exact h_ | (have e_ := (Kd.R_reads' HO_7.out).1; omega) | simpa using h_) (seg := [.int .i64 77]) (j := 1) hcl23 hcc23 (show 2 ≤ 2 from by decide) (x' := (⟨(rd_T36 x7_2 x13_2).f0, 77⟩ : S36)) (k36_mkM _ _ _ (⟨(rd_T36 x7_2 x13_2).f0, 77⟩ : S36) ) (fun _ hk => hk)
                have hx23_1 := hcc23 1 _ rfl
                (try simp only [show (k36).sz = 2 from rfl, Nat.mul_one, Nat.add_zero] at hx23_1)
                have hf23_1 := hfr23 1
                (try simp only [show (k36).sz = 2 from rfl, Nat.mul_one, Nat.add_zero] at hf23_1)
                clear hcl23 hcc23 hfr23 hM23
                go_wp2_with (first | ((with_reducible refine gate_store (t := 2) (p := 57) rfl ?_); (try (rw [drewN_self wr]; generalize hq_ : World.drewN wr _ = wr; have n0_ := Aside0.mk (Kd.S_at hq_ HO_0.out); have n1_ := Aside0.mk (Kd.S_at hq_ HO_4.out); have n2_ := Aside0.mk (Kd.R_at hq_ HO_7.out); have n3_ := Aside0.mk (Kd.R_at hq_ HO_9.out); have n4_ := Aside0.mk (Kd.R_at hq_ HO_11.out); have n5_ := Aside0.mk (below_at hq_ HB.out); clear hq_ HO_0 HO_4 HO_7 HO_9 HO_11 HB; have HO_0 := n0_; have HO_4 := n1_; have HO_7 := n2_; have HO_9 := n3_; have HO_11 := n4_; have HB := n5_; clear n0_ n1_ n2_ n3_ n4_ n5_; (try (have HX23 := Aside0.mk (show Kd.R k36 36 wr w.heap.size (fun k_ => some k_ ≠ (v398 : Value).ownBlock ∧ some k_ ≠ (v402 : Value).ownBlock) (.slice (some ⟨go21, 0, none⟩) x7_2.length co22) x7_2 from (by (with_reducible repeat (first | apply Kd.R_alloc | apply Kd.R_drewN | apply Kd.R_drew)); exact HO_7.out)))); (try (obtain ⟨ce23, hcl23, hM23, hcc23, hfr23⟩ := Kd.R_elem HX23.out z36 (x13_2 : Int) (of_decide_eq_true (by first | (with_reducible assumption) | assumption)) (by have h_ : (x13_2 : Int) < ((x7_2.length : Int) : Int) := of_decide_eq_true (by first | (with_reducible assumption) | assumption); first | exact h_ | (have e_ := (Kd.R_reads' HO_7.out).1; omega) | simpa using h_))); (try (obtain rfl := k36_openM hM23)); (try (have HP23 := Kd.R_seg HX23.out (x13_2 : Int) (of_decide_eq_true (by first | (with_reducible assumption) | assumption)) (by have h_ : (x13_2 : Int) < ((x7_2.length : Int) : Int) := of_decide_eq_true (by first | (with_reducible assumption) | assumption); first | exact h_ | (have e_ := (Kd.R_reads' HO_7.out).1; omega) | simpa using h_) (seg := [.int .i64 77]) (j := 1) hcl23 hcc23 (show 2 ≤ 2 from by decide) (x' := (⟨(rd_T36 x7_2 x13_2).f0, 77⟩ : S36)) (k36_mkM _ _ _ (⟨(rd_T36 x7_2 x13_2).f0, 77⟩ : S36) ) (fun _ hk => hk))); (try (have hx23_1 := hcc23 1 _ rfl)); (try (try simp only [show (k36).sz = 2 from rfl, Nat.mul_one, Nat.add_zero] at hx23_1)); (try (have hf23_1 := hfr23 1)); (try (try simp only [show (k36).sz = 2 from rfl, Nat.mul_one, Nat.add_zero] at hf23_1)); (try (clear hcl23 hcc23 hfr23 hM23)))); refine store_event (t := 2) (p := 57) (v := ?vo_w24) (w1 := (wr.setCell ⟨go21, (x13_2 : Int).toNat * 2 + 1, none⟩ (.int .i64 77))) ?hg ?ho ?hn ?hr ?_; (case ho => rfl); (case hg => rfl); (case hn => rfl); (case hr => first | (go_simp; done) | (go_simp; rfl)); intro w24 hw; have hg : wr.grownBy w24 (some go21) := (by rw [hw]; exact HP23.2); have hp_ : Kd.R k36 36 w24 w.heap.size (fun k_ => some k_ ≠ (v398 : Value).ownBlock ∧ some k_ ≠ (v402 : Value).ownBlock) (.slice (some ⟨go21, 0, none⟩) x7_2.length co22) y404 := (by rw [hw, Ny404.out]; exact HP23.1); clear HP23; have n0_ := Aside0.mk (Kd.S_after (v := (.slice (some ⟨go21, 0, none⟩) x7_2.length co22)) (v1 := (.slice (some ⟨go21, 0, none⟩) x7_2.length co22)) (ok := (fun k_ => some k_ ≠ (v387 : Value).ownBlock ∧ some k_ ≠ (v398 : Value).ownBlock ∧ some k_ ≠ (v402 : Value).ownBlock)) (by (with_reducible repeat (first | apply Kd.S_alloc | apply Kd.S_drewN | apply Kd.S_drew)); exact Kd.S_mono HO_0.out (fun _ hk => ⟨⟨hk.1, ⟨hk.2.2.1, hk.2.2.2⟩⟩, hk.2.1⟩)) hg (.inl rfl)); have n1_ := Aside0.mk (Kd.S_after (v := (.slice (some ⟨go21, 0, none⟩) x7_2.length co22)) (v1 := (.slice (some ⟨go21, 0, none⟩) x7_2.length co22)) (ok := (fun k_ => some k_ ≠ (.slice Ao7 t383.length co7 : Value).ownBlock ∧ some k_ ≠ (v398 : Value).ownBlock ∧ some k_ ≠ (v402 : Value).ownBlock)) (by (with_reducible repeat (first | apply Kd.S_alloc | apply Kd.S_drewN | apply Kd.S_drew)); exact Kd.S_mono HO_4.out (fun _ hk => ⟨⟨hk.1, ⟨hk.2.2.1, hk.2.2.2⟩⟩, hk.2.1⟩)) hg (.inl rfl)); have n2_ := Aside0.mk (hp_); have n3_ := Aside0.mk (Kd.R_after (v := (.slice (some ⟨go21, 0, none⟩) x7_2.length co22)) (v1 := (.slice (some ⟨go21, 0, none⟩) x7_2.length co22)) (ok := (fun k_ => some k_ ≠ (v402 : Value).ownBlock)) (by (with_reducible repeat (first | apply Kd.R_alloc | apply Kd.R_drewN | apply Kd.R_drew)); exact Kd.R_mono HO_9.out (fun _ hk => ⟨hk.2, hk.1⟩)) hg (.inl rfl)); have n4_ := Aside0.mk (Kd.R_after (v := (.slice (some ⟨go21, 0, none⟩) x7_2.length co22)) (v1 := (.slice (some ⟨go21, 0, none⟩) x7_2.length co22)) (ok := (fun k_ => some k_ ≠ (v398 : Value).ownBlock)) (by (with_reducible repeat (first | apply Kd.R_alloc | apply Kd.R_drewN | apply Kd.R_drew)); exact Kd.R_mono HO_11.out (fun _ hk => ⟨hk.2, hk.1⟩)) hg (.inl rfl)); have n5_ := Aside0.mk ((by rw [hw]; exact below_set (HB.out) GB21.out : Below w.heap.size w w24)); clear HO_0; clear HO_4; clear HO_7; clear HO_9; clear HO_11; clear HB; have HO_0 := n0_; have HO_4 := n1_; have HO_7 := n2_; have HO_9 := n3_; have HO_11 := n4_; have HB := n5_; clear n0_ n1_ n2_ n3_ n4_ n5_; clear hg hw hp_))
                repeat (go_quiet (first | ((with_reducible refine gate_store (t := 2) (p := 57) rfl ?_); (try (rw [drewN_self wr]; generalize hq_ : World.drewN wr _ = wr; have n0_ := Aside0.mk (Kd.S_at hq_ HO_0.out); have n1_ := Aside0.mk (Kd.S_at hq_ HO_4.out); have n2_ := Aside0.mk (Kd.R_at hq_ HO_7.out); have n3_ := Aside0.mk (Kd.R_at hq_ HO_9.out); have n4_ := Aside0.mk (Kd.R_at hq_ HO_11.out); have n5_ := Aside0.mk (below_at hq_ HB.out); clear hq_ HO_0 HO_4 HO_7 HO_9 HO_11 HB; have HO_0 := n0_; have HO_4 := n1_; have HO_7 := n2_; have HO_9 := n3_; have HO_11 := n4_; have HB := n5_; clear n0_ n1_ n2_ n3_ n4_ n5_; (try (have HX23 := Aside0.mk (show Kd.R k36 36 wr w.heap.size (fun k_ => some k_ ≠ (v398 : Value).ownBlock ∧ some k_ ≠ (v402 : Value).ownBlock) (.slice (some ⟨go21, 0, none⟩) x7_2.length co22) x7_2 from (by (with_reducible repeat (first | apply Kd.R_alloc | apply Kd.R_drewN | apply Kd.R_drew)); exact HO_7.out)))); (try (obtain ⟨ce23, hcl23, hM23, hcc23, hfr23⟩ := Kd.R_elem HX23.out z36 (x13_2 : Int) (of_decide_eq_true (by first | (with_reducible assumption) | assumption)) (by have h_ : (x13_2 : Int) < ((x7_2.length : Int) : Int) := of_decide_eq_true (by first | (with_reducible assumption) | assumption); first | exact h_ | (have e_ := (Kd.R_reads' HO_7.out).1; omega) | simpa using h_))); (try (obtain rfl := k36_openM hM23)); (try (have HP23 := Kd.R_seg HX23.out (x13_2 : Int) (of_decide_eq_true (by first | (with_reducible assumption) | assumption)) (by have h_ : (x13_2 : Int) < ((x7_2.length : Int) : Int) := of_decide_eq_true (by first | (with_reducible assumption) | assumption); first | exact h_ | (have e_ := (Kd.R_reads' HO_7.out).1; omega) | simpa using h_) (seg := [.int .i64 77]) (j := 1) hcl23 hcc23 (show 2 ≤ 2 from by decide) (x' := (⟨(rd_T36 x7_2 x13_2).f0, 77⟩ : S36)) (k36_mkM _ _ _ (⟨(rd_T36 x7_2 x13_2).f0, 77⟩ : S36) ) (fun _ hk => hk))); (try (have hx23_1 := hcc23 1 _ rfl)); (try (try simp only [show (k36).sz = 2 from rfl, Nat.mul_one, Nat.add_zero] at hx23_1)); (try (have hf23_1 := hfr23 1)); (try (try simp only [show (k36).sz = 2 from rfl, Nat.mul_one, Nat.add_zero] at hf23_1)); (try (clear hcl23 hcc23 hfr23 hM23)))); refine store_event (t := 2) (p := 57) (v := ?vo_w24) (w1 := (wr.setCell ⟨go21, (x13_2 : Int).toNat * 2 + 1, none⟩ (.int .i64 77))) ?hg ?ho ?hn ?hr ?_; (case ho => rfl); (case hg => rfl); (case hn => rfl); (case hr => first | (go_simp; done) | (go_simp; rfl)); intro w24 hw; have hg : wr.grownBy w24 (some go21) := (by rw [hw]; exact HP23.2); have hp_ : Kd.R k36 36 w24 w.heap.size (fun k_ => some k_ ≠ (v398 : Value).ownBlock ∧ some k_ ≠ (v402 : Value).ownBlock) (.slice (some ⟨go21, 0, none⟩) x7_2.length co22) y404 := (by rw [hw, Ny404.out]; exact HP23.1); clear HP23; have n0_ := Aside0.mk (Kd.S_after (v := (.slice (some ⟨go21, 0, none⟩) x7_2.length co22)) (v1 := (.slice (some ⟨go21, 0, none⟩) x7_2.length co22)) (ok := (fun k_ => some k_ ≠ (v387 : Value).ownBlock ∧ some k_ ≠ (v398 : Value).ownBlock ∧ some k_ ≠ (v402 : Value).ownBlock)) (by (with_reducible repeat (first | apply Kd.S_alloc | apply Kd.S_drewN | apply Kd.S_drew)); exact Kd.S_mono HO_0.out (fun _ hk => ⟨⟨hk.1, ⟨hk.2.2.1, hk.2.2.2⟩⟩, hk.2.1⟩)) hg (.inl rfl)); have n1_ := Aside0.mk (Kd.S_after (v := (.slice (some ⟨go21, 0, none⟩) x7_2.length co22)) (v1 := (.slice (some ⟨go21, 0, none⟩) x7_2.length co22)) (ok := (fun k_ => some k_ ≠ (.slice Ao7 t383.length co7 : Value).ownBlock ∧ some k_ ≠ (v398 : Value).ownBlock ∧ some k_ ≠ (v402 : Value).ownBlock)) (by (with_reducible repeat (first | apply Kd.S_alloc | apply Kd.S_drewN | apply Kd.S_drew)); exact Kd.S_mono HO_4.out (fun _ hk => ⟨⟨hk.1, ⟨hk.2.2.1, hk.2.2.2⟩⟩, hk.2.1⟩)) hg (.inl rfl)); have n2_ := Aside0.mk (hp_); have n3_ := Aside0.mk (Kd.R_after (v := (.slice (some ⟨go21, 0, none⟩) x7_2.length co22)) (v1 := (.slice (some ⟨go21, 0, none⟩) x7_2.length co22)) (ok := (fun k_ => some k_ ≠ (v402 : Value).ownBlock)) (by (with_reducible repeat (first | apply Kd.R_alloc | apply Kd.R_drewN | apply Kd.R_drew)); exact Kd.R_mono HO_9.out (fun _ hk => ⟨hk.2, hk.1⟩)) hg (.inl rfl)); have n4_ := Aside0.mk (Kd.R_after (v := (.slice (some ⟨go21, 0, none⟩) x7_2.length co22)) (v1 := (.slice (some ⟨go21, 0, none⟩) x7_2.length co22)) (ok := (fun k_ => some k_ ≠ (v398 : Value).ownBlock)) (by (with_reducible repeat (first | apply Kd.R_alloc | apply Kd.R_drewN | apply Kd.R_drew)); exact Kd.R_mono HO_11.out (fun _ hk => ⟨hk.2, hk.1⟩)) hg (.inl rfl)); have n5_ := Aside0.mk ((by rw [hw]; exact below_set (HB.out) GB21.out : Below w.heap.size w w24)); clear HO_0; clear HO_4; clear HO_7; clear HO_9; clear HO_11; clear HB; have HO_0 := n0_; have HO_4 := n1_; have HO_7 := n2_; have HO_9 := n3_; have HO_11 := n4_; have HB := n5_; clear n0_ n1_ n2_ n3_ n4_ n5_; clear hg hw hp_)); try go_wp2_with (first | ((with_reducible refine gate_store (t := 2) (p := 57) rfl ?_); (try (rw [drewN_self wr]; generalize hq_ : World.drewN wr _ = wr; have n0_ := Aside0.mk (Kd.S_at hq_ HO_0.out); have n1_ := Aside0.mk (Kd.S_at hq_ HO_4.out); have n2_ := Aside0.mk (Kd.R_at hq_ HO_7.out); have n3_ := Aside0.mk (Kd.R_at hq_ HO_9.out); have n4_ := Aside0.mk (Kd.R_at hq_ HO_11.out); have n5_ := Aside0.mk (below_at hq_ HB.out); clear hq_ HO_0 HO_4 HO_7 HO_9 HO_11 HB; have HO_0 := n0_; have HO_4 := n1_; have HO_7 := n2_; have HO_9 := n3_; have HO_11 := n4_; have HB := n5_; clear n0_ n1_ n2_ n3_ n4_ n5_; (try (have HX23 := Aside0.mk (show Kd.R k36 36 wr w.heap.size (fun k_ => some k_ ≠ (v398 : Value).ownBlock ∧ some k_ ≠ (v402 : Value).ownBlock) (.slice (some ⟨go21, 0, none⟩) x7_2.length co22) x7_2 from (by (with_reducible repeat (first | apply Kd.R_alloc | apply Kd.R_drewN | apply Kd.R_drew)); exact HO_7.out)))); (try (obtain ⟨ce23, hcl23, hM23, hcc23, hfr23⟩ := Kd.R_elem HX23.out z36 (x13_2 : Int) (of_decide_eq_true (by first | (with_reducible assumption) | assumption)) (by have h_ : (x13_2 : Int) < ((x7_2.length : Int) : Int) := of_decide_eq_true (by first | (with_reducible assumption) | assumption); first | exact h_ | (have e_ := (Kd.R_reads' HO_7.out).1; omega) | simpa using h_))); (try (obtain rfl := k36_openM hM23)); (try (have HP23 := Kd.R_seg HX23.out (x13_2 : Int) (of_decide_eq_true (by first | (with_reducible assumption) | assumption)) (by have h_ : (x13_2 : Int) < ((x7_2.length : Int) : Int) := of_decide_eq_true (by first | (with_reducible assumption) | assumption); first | exact h_ | (have e_ := (Kd.R_reads' HO_7.out).1; omega) | simpa using h_) (seg := [.int .i64 77]) (j := 1) hcl23 hcc23 (show 2 ≤ 2 from by decide) (x' := (⟨(rd_T36 x7_2 x13_2).f0, 77⟩ : S36)) (k36_mkM _ _ _ (⟨(rd_T36 x7_2 x13_2).f0, 77⟩ : S36) ) (fun _ hk => hk))); (try (have hx23_1 := hcc23 1 _ rfl)); (try (try simp only [show (k36).sz = 2 from rfl, Nat.mul_one, Nat.add_zero] at hx23_1)); (try (have hf23_1 := hfr23 1)); (try (try simp only [show (k36).sz = 2 from rfl, Nat.mul_one, Nat.add_zero] at hf23_1)); (try (clear hcl23 hcc23 hfr23 hM23)))); refine store_event (t := 2) (p := 57) (v := ?vo_w24) (w1 := (wr.setCell ⟨go21, (x13_2 : Int).toNat * 2 + 1, none⟩ (.int .i64 77))) ?hg ?ho ?hn ?hr ?_; (case ho => rfl); (case hg => rfl); (case hn => rfl); (case hr => first | (go_simp; done) | (go_simp; rfl)); intro w24 hw; have hg : wr.grownBy w24 (some go21) := (by rw [hw]; exact HP23.2); have hp_ : Kd.R k36 36 w24 w.heap.size (fun k_ => some k_ ≠ (v398 : Value).ownBlock ∧ some k_ ≠ (v402 : Value).ownBlock) (.slice (some ⟨go21, 0, none⟩) x7_2.length co22) y404 := (by rw [hw, Ny404.out]; exact HP23.1); clear HP23; have n0_ := Aside0.mk (Kd.S_after (v := (.slice (some ⟨go21, 0, none⟩) x7_2.length co22)) (v1 := (.slice (some ⟨go21, 0, none⟩) x7_2.length co22)) (ok := (fun k_ => some k_ ≠ (v387 : Value).ownBlock ∧ some k_ ≠ (v398 : Value).ownBlock ∧ some k_ ≠ (v402 : Value).ownBlock)) (by (with_reducible repeat (first | apply Kd.S_alloc | apply Kd.S_drewN | apply Kd.S_drew)); exact Kd.S_mono HO_0.out (fun _ hk => ⟨⟨hk.1, ⟨hk.2.2.1, hk.2.2.2⟩⟩, hk.2.1⟩)) hg (.inl rfl)); have n1_ := Aside0.mk (Kd.S_after (v := (.slice (some ⟨go21, 0, none⟩) x7_2.length co22)) (v1 := (.slice (some ⟨go21, 0, none⟩) x7_2.length co22)) (ok := (fun k_ => some k_ ≠ (.slice Ao7 t383.length co7 : Value).ownBlock ∧ some k_ ≠ (v398 : Value).ownBlock ∧ some k_ ≠ (v402 : Value).ownBlock)) (by (with_reducible repeat (first | apply Kd.S_alloc | apply Kd.S_drewN | apply Kd.S_drew)); exact Kd.S_mono HO_4.out (fun _ hk => ⟨⟨hk.1, ⟨hk.2.2.1, hk.2.2.2⟩⟩, hk.2.1⟩)) hg (.inl rfl)); have n2_ := Aside0.mk (hp_); have n3_ := Aside0.mk (Kd.R_after (v := (.slice (some ⟨go21, 0, none⟩) x7_2.length co22)) (v1 := (.slice (some ⟨go21, 0, none⟩) x7_2.length co22)) (ok := (fun k_ => some k_ ≠ (v402 : Value).ownBlock)) (by (with_reducible repeat (first | apply Kd.R_alloc | apply Kd.R_drewN | apply Kd.R_drew)); exact Kd.R_mono HO_9.out (fun _ hk => ⟨hk.2, hk.1⟩)) hg (.inl rfl)); have n4_ := Aside0.mk (Kd.R_after (v := (.slice (some ⟨go21, 0, none⟩) x7_2.length co22)) (v1 := (.slice (some ⟨go21, 0, none⟩) x7_2.length co22)) (ok := (fun k_ => some k_ ≠ (v398 : Value).ownBlock)) (by (with_reducible repeat (first | apply Kd.R_alloc | apply Kd.R_drewN | apply Kd.R_drew)); exact Kd.R_mono HO_11.out (fun _ hk => ⟨hk.2, hk.1⟩)) hg (.inl rfl)); have n5_ := Aside0.mk ((by rw [hw]; exact below_set (HB.out) GB21.out : Below w.heap.size w w24)); clear HO_0; clear HO_4; clear HO_7; clear HO_9; clear HO_11; clear HB; have HO_0 := n0_; have HO_4 := n1_; have HO_7 := n2_; have HO_9 := n3_; have HO_11 := n4_; have HB := n5_; clear n0_ n1_ n2_ n3_ n4_ n5_; clear hg hw hp_)))
                go_roundg k2
                case measure => have := HK1.out; have := HK2.out; omega
                case rel => exact ⟨(y404), (wrap64 (x13_2 + 1)), (by first | rfl | (simp; done) | (simp [*]; done)), H', ⟨by have := HK1.out; have := HK2.out; omega⟩, ⟨by (with_reducible repeat (first | apply Kd.S_alloc | apply Kd.S_drewN | apply Kd.S_drew)); exact Kd.S_mono HO_0.out (fun _ hk => ⟨hk.1.1, ⟨hk.2, ⟨hk.1.2.1, hk.1.2.2⟩⟩⟩)⟩, ⟨by (with_reducible repeat (first | apply Kd.S_alloc | apply Kd.S_drewN | apply Kd.S_drew)); exact Kd.S_mono HO_4.out (fun _ hk => ⟨hk.1.1, ⟨hk.2, ⟨hk.1.2.1, hk.1.2.2⟩⟩⟩)⟩, ⟨by (with_reducible repeat (first | apply Kd.R_alloc | apply Kd.R_drewN | apply Kd.R_drew)); exact HO_7.out⟩, ⟨by (with_reducible repeat (first | apply Kd.R_alloc | apply Kd.R_drewN | apply Kd.R_drew)); exact Kd.R_mono HO_9.out (fun _ hk => ⟨hk.2, hk.1⟩)⟩, ⟨by (with_reducible repeat (first | apply Kd.R_alloc | apply Kd.R_drewN | apply Kd.R_drew)); exact Kd.R_mono HO_11.out (fun _ hk => ⟨hk.2, hk.1⟩)⟩, ⟨by repeat (first | (with_reducible first | exact HB.out | apply below_alloc | apply pw_below_drewN | apply below_drew1) | exact HB.out)⟩⟩
              · rw [if_neg c20] at H
                exact absurd H (by simp)
            · rw [if_neg c19] at H
              have c19b0 : decide (x13_2 < (x7_2.length : Int)) = false := decide_eq_false c19
              clear c19
              have H' := Aside0.mk H
              clear H
              obtain ⟨Ao25, co25, eo25⟩ := Kd.R_slice HO_7.out
              subst eo25
              go_wp2
              repeat (go_quiet (fail); try go_wp2)
              go_loopg [14] k2 (fun kq v14 w' => ∃ (x9_3 : List (S36)) (x14_3 : Int), v14 = .int .i64 x14_3 ∧ Aside0 (paliolaw13_AlgebraOwn.l2 kq t383 t382 t386 x9_3 t400 x14_3 = some r) ∧ Aside0 (kq ≤ k2) ∧ Aside0 (Kd.S (Kd.slice 36 k36) 26 w' w.heap.size (fun k_ => some k_ ≠ (v387 : Value).ownBlock ∧ some k_ ≠ (v398 : Value).ownBlock ∧ some k_ ≠ (v402 : Value).ownBlock) (.slice Ao7 t383.length co7) t383) ∧ Aside0 (Kd.S (Kd.slice 36 k36) 26 w' w.heap.size (fun k_ => some k_ ≠ ((.slice Ao7 t383.length co7) : Value).ownBlock ∧ some k_ ≠ (v398 : Value).ownBlock ∧ some k_ ≠ (v402 : Value).ownBlock) v387 t386) ∧ Aside0 (Kd.R k36 36 w' w.heap.size (fun k_ => some k_ ≠ (v402 : Value).ownBlock) v398 x9_3) ∧ Aside0 (Kd.R k36 36 w' w.heap.size (fun k_ => some k_ ≠ (v398 : Value).ownBlock) v402 t400) ∧ Aside0 (Below w.heap.size w w'))
              case atStart => exact ⟨(t396), (0), (by first | rfl | (simp; done) | (simp [*]; done)), H', ⟨Nat.le_refl _⟩, ⟨by (with_reducible repeat (first | apply Kd.S_alloc | apply Kd.S_drewN | apply Kd.S_drew)); exact Kd.S_mono HO_0.out (fun _ hk => ⟨hk.1, ⟨hk.2.2.1, hk.2.2.2⟩⟩)⟩, ⟨by (with_reducible repeat (first | apply Kd.S_alloc | apply Kd.S_drewN | apply Kd.S_drew)); exact Kd.S_mono HO_4.out (fun _ hk => ⟨hk.1, ⟨hk.2.2.1, hk.2.2.2⟩⟩)⟩, ⟨by (with_reducible repeat (first | apply Kd.R_alloc | apply Kd.R_drewN | apply Kd.R_drew)); exact Kd.R_mono HO_9.out (fun _ hk => hk.2)⟩, ⟨by (with_reducible repeat (first | apply Kd.R_alloc | apply Kd.R_drewN | apply Kd.R_drew)); exact Kd.R_mono HO_11.out (fun _ hk => hk.2)⟩, ⟨by repeat (first | (with_reducible first | exact HB.out | apply below_alloc | apply pw_below_drewN | apply below_drew1) | exact HB.out)⟩⟩
              case round =>
                clear H'
                try clear c1
                try clear c2
                try clear p2
                try clear q2
                try clear hx2
                try clear hf2
                try clear p6
                try clear c7
                try clear c9
                try clear c9b0
                try clear c10
                try clear c19
                try clear c19b0
                try clear c20
                try clear c20b0
                try clear c21
                try clear p21
                try clear q21
                try clear hx21
                try clear hf21
                try clear c23
                try clear hx23
                try clear hf23
                try clear hx21_0
                try clear hx21_1
                try clear hx23_1
                try clear p2
                try clear p21
                try clear p6
                try clear q21
                obtain ⟨x9_3, x14_3, rfl, HA, HK3, HO_0, HO_4, HO_9, HO_11, HB⟩ := hrel
                cases gk with
                | zero => exact absurd HA.out (by simp [paliolaw13_AlgebraOwn.l2])
                | succ k3 =>
                  have H := HA.out
                  clear HA
                  simp only [paliolaw13_AlgebraOwn.l2] at H
                  by_cases c26 : x14_3 < (x9_3.length : Int)
                  · rw [if_pos c26] at H
                    have c26b0 : decide (x14_3 < (x9_3.length : Int)) = true := decide_eq_true c26
                    clear c26
                    by_cases c27 : 0 ≤ x14_3
                    · rw [if_pos c27] at H
                      have c27b0 : decide (0 ≤ x14_3) = true := decide_eq_true c27
                      clear c27
                      obtain ⟨y405, hy405⟩ : ∃ y_ : List (S36), y_ = (x9_3.set (x14_3 : Int).toNat (⟨(rd_T36 x9_3 x14_3).f0, 77⟩ : S36)) := ⟨_, rfl⟩
                      replace H : (paliolaw13_AlgebraOwn.l2 k3 t383 t382 t386 y405 t400 (wrap64 (x14_3 + 1))) = some r := by first | (rw [hy405]; with_reducible exact H) | (have H2_ := (Option.bind_some _ _).symm.trans H; rw [hy405]; with_reducible exact H2_) | (have H2_ := (Option.bind_some _ _).symm.trans H; with_reducible exact H2_) | with_reducible exact H | (rw [hy405]; exact H) | exact H
                      have Ny405 := Aside0.mk hy405
                      clear hy405
                      have H' := Aside0.mk H
                      clear H
                      obtain ⟨Ao29, co29, eo29⟩ := Kd.R_slice HO_9.out
                      subst eo29
                      have p28 : 0 ≤ (x14_3 : Int) := of_decide_eq_true (by first | (with_reducible assumption) | assumption)
                      have q28 : (x14_3 : Int) < ((x9_3.length : Int) : Int) := of_decide_eq_true (by first | (with_reducible assumption) | assumption)
                      obtain ⟨go28, co28, eo28, gb28, gl28, cl28, HG28⟩ := Kd.R_form HO_9.out (by omega)
                      (first | cases eo28 | (injection eo28 with ea_ en_ ec_; (first | subst ea_ | (injection ea_ with ea_; subst ea_)); subst ec_; clear en_))
                      have GB28 := Aside0.mk gb28
                      have GG28 := Aside0.mk HG28
                      clear gb28 gl28 HG28
                      obtain ⟨ce28, hcl28, hM28, hcc28, hfr28⟩ := Kd.R_elem HO_9.out z36 (x14_3 : Int) p28 q28
                      obtain rfl := k36_openM hM28
                      have hx28_0 : wr.cell? ⟨go28, (x14_3 : Int).toNat * 2, none⟩ = some (.string ((rd_T36 x9_3 x14_3).f0)) := hcc28 0 _ rfl
                      have hx28_1 : wr.cell? ⟨go28, (x14_3 : Int).toNat * 2 + 1, none⟩ = some (.int .i64 ((rd_T36 x9_3 x14_3).f1)) := hcc28 1 _ rfl
                      have hf28_0 : wr.frozen? ⟨go28, (x14_3 : Int).toNat * 2, none⟩ = false := hfr28 0
                      have hf28_1 : wr.frozen? ⟨go28, (x14_3 : Int).toNat * 2 + 1, none⟩ = false := hfr28 1
                      clear hcl28 hcc28 hfr28 hM28
                      replace p28 := eq_true p28
                      replace q28 := eq_true q28
                      have HX30 := Aside0.mk (show Kd.R k36 36 wr w.heap.size (fun k_ => some k_ ≠ (v402 : Value).ownBlock) (.slice (some ⟨go28, 0, none⟩) x9_3.length co29) x9_3 from (by (with_reducible repeat (first | apply Kd.R_alloc | apply Kd.R_drewN | apply Kd.R_drew)); exact HO_9.out))
                      obtain ⟨ce30, hcl30, hM30, hcc30, hfr30⟩ := Kd.R_elem HX30.out z36 (x14_3 : Int) (of_decide_eq_true (by first | (with_reducible assumption) | assumption)) (by have h_ : (x14_3 : Int) < ((x9_3.length : Int) : Int) := of_decide_eq_true (by first | (with_reducible assumption) | assumption); first | exact h_ | (have e_ := (Kd.R_reads' HO_9.out).1; omega) | simpa using h_)
                      obtain rfl := k36_openM hM30
                      have HP30 := Kd.R_seg HX30.out (x14_3 : Int) (of_decide_eq_true (by first | (with_reducible assumption) | assumption)) (by have h_ : (x14_3 : Int) < ((x9_3.length : Int) : Int) := of_decide_eq_true (by first | (with_reducible assumption) | assumption); first | exact h_ | (have e_ := (Kd.R_reads' HO_9.out).1; omega) | simpa using h_) (seg := [.int .i64 77]) (j := 1) hcl30 hcc30 (show 2 ≤ 2 from by decide) (x' := (⟨(rd_T36 x9_3 x14_3).f0, 77⟩ : S36)) (k36_mkM _ _ _ (⟨(rd_T36 x9_3 x14_3).f0, 77⟩ : S36) ) (fun _ hk => hk)
                      have hx30_1 := hcc30 1 _ rfl
                      (try simp only [show (k36).sz = 2 from rfl, Nat.mul_one, Nat.add_zero] at hx30_1)
                      have hf30_1 := hfr30 1
                      (try simp only [show (k36).sz = 2 from rfl, Nat.mul_one, Nat.add_zero] at hf30_1)
                      clear hcl30 hcc30 hfr30 hM30
                      go_wp2_with (first | ((with_reducible refine gate_store (t := 2) (p := 67) rfl ?_); (try (rw [drewN_self wr]; generalize hq_ : World.drewN wr _ = wr; have n0_ := Aside0.mk (Kd.S_at hq_ HO_0.out); have n1_ := Aside0.mk (Kd.S_at hq_ HO_4.out); have n2_ := Aside0.mk (Kd.R_at hq_ HO_9.out); have n3_ := Aside0.mk (Kd.R_at hq_ HO_11.out); have n4_ := Aside0.mk (below_at hq_ HB.out); clear hq_ HO_0 HO_4 HO_9 HO_11 HB; have HO_0 := n0_; have HO_4 := n1_; have HO_9 := n2_; have HO_11 := n3_; have HB := n4_; clear n0_ n1_ n2_ n3_ n4_; (try (have HX30 := Aside0.mk (show Kd.R k36 36 wr w.heap.size (fun k_ => some k_ ≠ (v402 : Value).ownBlock) (.slice (some ⟨go28, 0, none⟩) x9_3.length co29) x9_3 from (by (with_reducible repeat (first | apply Kd.R_alloc | apply Kd.R_drewN | apply Kd.R_drew)); exact HO_9.out)))); (try (obtain ⟨ce30, hcl30, hM30, hcc30, hfr30⟩ := Kd.R_elem HX30.out z36 (x14_3 : Int) (of_decide_eq_true (by first | (with_reducible assumption) | assumption)) (by have h_ : (x14_3 : Int) < ((x9_3.length : Int) : Int) := of_decide_eq_true (by first | (with_reducible assumption) | assumption); first | exact h_ | (have e_ := (Kd.R_reads' HO_9.out).1; omega) | simpa using h_))); (try (obtain rfl := k36_openM hM30)); (try (have HP30 := Kd.R_seg HX30.out (x14_3 : Int) (of_decide_eq_true (by first | (with_reducible assumption) | assumption)) (by have h_ : (x14_3 : Int) < ((x9_3.length : Int) : Int) := of_decide_eq_true (by first | (with_reducible assumption) | assumption); first | exact h_ | (have e_ := (Kd.R_reads' HO_9.out).1; omega) | simpa using h_) (seg := [.int .i64 77]) (j := 1) hcl30 hcc30 (show 2 ≤ 2 from by decide) (x' := (⟨(rd_T36 x9_3 x14_3).f0, 77⟩ : S36)) (k36_mkM _ _ _ (⟨(rd_T36 x9_3 x14_3).f0, 77⟩ : S36) ) (fun _ hk => hk))); (try (have hx30_1 := hcc30 1 _ rfl)); (try (try simp only [show (k36).sz = 2 from rfl, Nat.mul_one, Nat.add_zero] at hx30_1)); (try (have hf30_1 := hfr30 1)); (try (try simp only [show (k36).sz = 2 from rfl, Nat.mul_one, Nat.add_zero] at hf30_1)); (try (clear hcl30 hcc30 hfr30 hM30)))); refine store_event (t := 2) (p := 67) (v := ?vo_w31) (w1 := (wr.setCell ⟨go28, (x14_3 : Int).toNat * 2 + 1, none⟩ (.int .i64 77))) ?hg ?ho ?hn ?hr ?_; (case ho => rfl); (case hg => rfl); (case hn => rfl); (case hr => first | (go_simp; done) | (go_simp; rfl)); intro w31 hw; have hg : wr.grownBy w31 (some go28) := (by rw [hw]; exact HP30.2); have hp_ : Kd.R k36 36 w31 w.heap.size (fun k_ => some k_ ≠ (v402 : Value).ownBlock) (.slice (some ⟨go28, 0, none⟩) x9_3.length co29) y405 := (by rw [hw, Ny405.out]; exact HP30.1); clear HP30; have n0_ := Aside0.mk (Kd.S_after (v := (.slice (some ⟨go28, 0, none⟩) x9_3.length co29)) (v1 := (.slice (some ⟨go28, 0, none⟩) x9_3.length co29)) (ok := (fun k_ => some k_ ≠ (v387 : Value).ownBlock ∧ some k_ ≠ (v402 : Value).ownBlock)) (by (with_reducible repeat (first | apply Kd.S_alloc | apply Kd.S_drewN | apply Kd.S_drew)); exact Kd.S_mono HO_0.out (fun _ hk => ⟨⟨hk.1, hk.2.2⟩, hk.2.1⟩)) hg (.inl rfl)); have n1_ := Aside0.mk (Kd.S_after (v := (.slice (some ⟨go28, 0, none⟩) x9_3.length co29)) (v1 := (.slice (some ⟨go28, 0, none⟩) x9_3.length co29)) (ok := (fun k_ => some k_ ≠ (.slice Ao7 t383.length co7 : Value).ownBlock ∧ some k_ ≠ (v402 : Value).ownBlock)) (by (with_reducible repeat (first | apply Kd.S_alloc | apply Kd.S_drewN | apply Kd.S_drew)); exact Kd.S_mono HO_4.out (fun _ hk => ⟨⟨hk.1, hk.2.2⟩, hk.2.1⟩)) hg (.inl rfl)); have n2_ := Aside0.mk (hp_); have n3_ := Aside0.mk (Kd.R_after (v := (.slice (some ⟨go28, 0, none⟩) x9_3.length co29)) (v1 := (.slice (some ⟨go28, 0, none⟩) x9_3.length co29)) (ok := (fun _ => True)) (by (with_reducible repeat (first | apply Kd.R_alloc | apply Kd.R_drewN | apply Kd.R_drew)); exact Kd.R_mono HO_11.out (fun _ hk => ⟨trivial, hk⟩)) hg (.inl rfl)); have n4_ := Aside0.mk ((by rw [hw]; exact below_set (HB.out) GB28.out : Below w.heap.size w w31)); clear HO_0; clear HO_4; clear HO_9; clear HO_11; clear HB; have HO_0 := n0_; have HO_4 := n1_; have HO_9 := n2_; have HO_11 := n3_; have HB := n4_; clear n0_ n1_ n2_ n3_ n4_; clear hg hw hp_))
                      repeat (go_quiet (first | ((with_reducible refine gate_store (t := 2) (p := 67) rfl ?_); (try (rw [drewN_self wr]; generalize hq_ : World.drewN wr _ = wr; have n0_ := Aside0.mk (Kd.S_at hq_ HO_0.out); have n1_ := Aside0.mk (Kd.S_at hq_ HO_4.out); have n2_ := Aside0.mk (Kd.R_at hq_ HO_9.out); have n3_ := Aside0.mk (Kd.R_at hq_ HO_11.out); have n4_ := Aside0.mk (below_at hq_ HB.out); clear hq_ HO_0 HO_4 HO_9 HO_11 HB; have HO_0 := n0_; have HO_4 := n1_; have HO_9 := n2_; have HO_11 := n3_; have HB := n4_; clear n0_ n1_ n2_ n3_ n4_; (try (have HX30 := Aside0.mk (show Kd.R k36 36 wr w.heap.size (fun k_ => some k_ ≠ (v402 : Value).ownBlock) (.slice (some ⟨go28, 0, none⟩) x9_3.length co29) x9_3 from (by (with_reducible repeat (first | apply Kd.R_alloc | apply Kd.R_drewN | apply Kd.R_drew)); exact HO_9.out)))); (try (obtain ⟨ce30, hcl30, hM30, hcc30, hfr30⟩ := Kd.R_elem HX30.out z36 (x14_3 : Int) (of_decide_eq_true (by first | (with_reducible assumption) | assumption)) (by have h_ : (x14_3 : Int) < ((x9_3.length : Int) : Int) := of_decide_eq_true (by first | (with_reducible assumption) | assumption); first | exact h_ | (have e_ := (Kd.R_reads' HO_9.out).1; omega) | simpa using h_))); (try (obtain rfl := k36_openM hM30)); (try (have HP30 := Kd.R_seg HX30.out (x14_3 : Int) (of_decide_eq_true (by first | (with_reducible assumption) | assumption)) (by have h_ : (x14_3 : Int) < ((x9_3.length : Int) : Int) := of_decide_eq_true (by first | (with_reducible assumption) | assumption); first | exact h_ | (have e_ := (Kd.R_reads' HO_9.out).1; omega) | simpa using h_) (seg := [.int .i64 77]) (j := 1) hcl30 hcc30 (show 2 ≤ 2 from by decide) (x' := (⟨(rd_T36 x9_3 x14_3).f0, 77⟩ : S36)) (k36_mkM _ _ _ (⟨(rd_T36 x9_3 x14_3).f0, 77⟩ : S36) ) (fun _ hk => hk))); (try (have hx30_1 := hcc30 1 _ rfl)); (try (try simp only [show (k36).sz = 2 from rfl, Nat.mul_one, Nat.add_zero] at hx30_1)); (try (have hf30_1 := hfr30 1)); (try (try simp only [show (k36).sz = 2 from rfl, Nat.mul_one, Nat.add_zero] at hf30_1)); (try (clear hcl30 hcc30 hfr30 hM30)))); refine store_event (t := 2) (p := 67) (v := ?vo_w31) (w1 := (wr.setCell ⟨go28, (x14_3 : Int).toNat * 2 + 1, none⟩ (.int .i64 77))) ?hg ?ho ?hn ?hr ?_; (case ho => rfl); (case hg => rfl); (case hn => rfl); (case hr => first | (go_simp; done) | (go_simp; rfl)); intro w31 hw; have hg : wr.grownBy w31 (some go28) := (by rw [hw]; exact HP30.2); have hp_ : Kd.R k36 36 w31 w.heap.size (fun k_ => some k_ ≠ (v402 : Value).ownBlock) (.slice (some ⟨go28, 0, none⟩) x9_3.length co29) y405 := (by rw [hw, Ny405.out]; exact HP30.1); clear HP30; have n0_ := Aside0.mk (Kd.S_after (v := (.slice (some ⟨go28, 0, none⟩) x9_3.length co29)) (v1 := (.slice (some ⟨go28, 0, none⟩) x9_3.length co29)) (ok := (fun k_ => some k_ ≠ (v387 : Value).ownBlock ∧ some k_ ≠ (v402 : Value).ownBlock)) (by (with_reducible repeat (first | apply Kd.S_alloc | apply Kd.S_drewN | apply Kd.S_drew)); exact Kd.S_mono HO_0.out (fun _ hk => ⟨⟨hk.1, hk.2.2⟩, hk.2.1⟩)) hg (.inl rfl)); have n1_ := Aside0.mk (Kd.S_after (v := (.slice (some ⟨go28, 0, none⟩) x9_3.length co29)) (v1 := (.slice (some ⟨go28, 0, none⟩) x9_3.length co29)) (ok := (fun k_ => some k_ ≠ (.slice Ao7 t383.length co7 : Value).ownBlock ∧ some k_ ≠ (v402 : Value).ownBlock)) (by (with_reducible repeat (first | apply Kd.S_alloc | apply Kd.S_drewN | apply Kd.S_drew)); exact Kd.S_mono HO_4.out (fun _ hk => ⟨⟨hk.1, hk.2.2⟩, hk.2.1⟩)) hg (.inl rfl)); have n2_ := Aside0.mk (hp_); have n3_ := Aside0.mk (Kd.R_after (v := (.slice (some ⟨go28, 0, none⟩) x9_3.length co29)) (v1 := (.slice (some ⟨go28, 0, none⟩) x9_3.length co29)) (ok := (fun _ => True)) (by (with_reducible repeat (first | apply Kd.R_alloc | apply Kd.R_drewN | apply Kd.R_drew)); exact Kd.R_mono HO_11.out (fun _ hk => ⟨trivial, hk⟩)) hg (.inl rfl)); have n4_ := Aside0.mk ((by rw [hw]; exact below_set (HB.out) GB28.out : Below w.heap.size w w31)); clear HO_0; clear HO_4; clear HO_9; clear HO_11; clear HB; have HO_0 := n0_; have HO_4 := n1_; have HO_9 := n2_; have HO_11 := n3_; have HB := n4_; clear n0_ n1_ n2_ n3_ n4_; clear hg hw hp_)); try go_wp2_with (first | ((with_reducible refine gate_store (t := 2) (p := 67) rfl ?_); (try (rw [drewN_self wr]; generalize hq_ : World.drewN wr _ = wr; have n0_ := Aside0.mk (Kd.S_at hq_ HO_0.out); have n1_ := Aside0.mk (Kd.S_at hq_ HO_4.out); have n2_ := Aside0.mk (Kd.R_at hq_ HO_9.out); have n3_ := Aside0.mk (Kd.R_at hq_ HO_11.out); have n4_ := Aside0.mk (below_at hq_ HB.out); clear hq_ HO_0 HO_4 HO_9 HO_11 HB; have HO_0 := n0_; have HO_4 := n1_; have HO_9 := n2_; have HO_11 := n3_; have HB := n4_; clear n0_ n1_ n2_ n3_ n4_; (try (have HX30 := Aside0.mk (show Kd.R k36 36 wr w.heap.size (fun k_ => some k_ ≠ (v402 : Value).ownBlock) (.slice (some ⟨go28, 0, none⟩) x9_3.length co29) x9_3 from (by (with_reducible repeat (first | apply Kd.R_alloc | apply Kd.R_drewN | apply Kd.R_drew)); exact HO_9.out)))); (try (obtain ⟨ce30, hcl30, hM30, hcc30, hfr30⟩ := Kd.R_elem HX30.out z36 (x14_3 : Int) (of_decide_eq_true (by first | (with_reducible assumption) | assumption)) (by have h_ : (x14_3 : Int) < ((x9_3.length : Int) : Int) := of_decide_eq_true (by first | (with_reducible assumption) | assumption); first | exact h_ | (have e_ := (Kd.R_reads' HO_9.out).1; omega) | simpa using h_))); (try (obtain rfl := k36_openM hM30)); (try (have HP30 := Kd.R_seg HX30.out (x14_3 : Int) (of_decide_eq_true (by first | (with_reducible assumption) | assumption)) (by have h_ : (x14_3 : Int) < ((x9_3.length : Int) : Int) := of_decide_eq_true (by first | (with_reducible assumption) | assumption); first | exact h_ | (have e_ := (Kd.R_reads' HO_9.out).1; omega) | simpa using h_) (seg := [.int .i64 77]) (j := 1) hcl30 hcc30 (show 2 ≤ 2 from by decide) (x' := (⟨(rd_T36 x9_3 x14_3).f0, 77⟩ : S36)) (k36_mkM _ _ _ (⟨(rd_T36 x9_3 x14_3).f0, 77⟩ : S36) ) (fun _ hk => hk))); (try (have hx30_1 := hcc30 1 _ rfl)); (try (try simp only [show (k36).sz = 2 from rfl, Nat.mul_one, Nat.add_zero] at hx30_1)); (try (have hf30_1 := hfr30 1)); (try (try simp only [show (k36).sz = 2 from rfl, Nat.mul_one, Nat.add_zero] at hf30_1)); (try (clear hcl30 hcc30 hfr30 hM30)))); refine store_event (t := 2) (p := 67) (v := ?vo_w31) (w1 := (wr.setCell ⟨go28, (x14_3 : Int).toNat * 2 + 1, none⟩ (.int .i64 77))) ?hg ?ho ?hn ?hr ?_; (case ho => rfl); (case hg => rfl); (case hn => rfl); (case hr => first | (go_simp; done) | (go_simp; rfl)); intro w31 hw; have hg : wr.grownBy w31 (some go28) := (by rw [hw]; exact HP30.2); have hp_ : Kd.R k36 36 w31 w.heap.size (fun k_ => some k_ ≠ (v402 : Value).ownBlock) (.slice (some ⟨go28, 0, none⟩) x9_3.length co29) y405 := (by rw [hw, Ny405.out]; exact HP30.1); clear HP30; have n0_ := Aside0.mk (Kd.S_after (v := (.slice (some ⟨go28, 0, none⟩) x9_3.length co29)) (v1 := (.slice (some ⟨go28, 0, none⟩) x9_3.length co29)) (ok := (fun k_ => some k_ ≠ (v387 : Value).ownBlock ∧ some k_ ≠ (v402 : Value).ownBlock)) (by (with_reducible repeat (first | apply Kd.S_alloc | apply Kd.S_drewN | apply Kd.S_drew)); exact Kd.S_mono HO_0.out (fun _ hk => ⟨⟨hk.1, hk.2.2⟩, hk.2.1⟩)) hg (.inl rfl)); have n1_ := Aside0.mk (Kd.S_after (v := (.slice (some ⟨go28, 0, none⟩) x9_3.length co29)) (v1 := (.slice (some ⟨go28, 0, none⟩) x9_3.length co29)) (ok := (fun k_ => some k_ ≠ (.slice Ao7 t383.length co7 : Value).ownBlock ∧ some k_ ≠ (v402 : Value).ownBlock)) (by (with_reducible repeat (first | apply Kd.S_alloc | apply Kd.S_drewN | apply Kd.S_drew)); exact Kd.S_mono HO_4.out (fun _ hk => ⟨⟨hk.1, hk.2.2⟩, hk.2.1⟩)) hg (.inl rfl)); have n2_ := Aside0.mk (hp_); have n3_ := Aside0.mk (Kd.R_after (v := (.slice (some ⟨go28, 0, none⟩) x9_3.length co29)) (v1 := (.slice (some ⟨go28, 0, none⟩) x9_3.length co29)) (ok := (fun _ => True)) (by (with_reducible repeat (first | apply Kd.R_alloc | apply Kd.R_drewN | apply Kd.R_drew)); exact Kd.R_mono HO_11.out (fun _ hk => ⟨trivial, hk⟩)) hg (.inl rfl)); have n4_ := Aside0.mk ((by rw [hw]; exact below_set (HB.out) GB28.out : Below w.heap.size w w31)); clear HO_0; clear HO_4; clear HO_9; clear HO_11; clear HB; have HO_0 := n0_; have HO_4 := n1_; have HO_9 := n2_; have HO_11 := n3_; have HB := n4_; clear n0_ n1_ n2_ n3_ n4_; clear hg hw hp_)))
                      go_roundg k3
                      case measure => have := HK1.out; have := HK2.out; have := HK3.out; omega
                      case rel => exact ⟨(y405), (wrap64 (x14_3 + 1)), (by first | rfl | (simp; done) | (simp [*]; done)), H', ⟨by have := HK1.out; have := HK2.out; have := HK3.out; omega⟩, ⟨by (with_reducible repeat (first | apply Kd.S_alloc | apply Kd.S_drewN | apply Kd.S_drew)); exact Kd.S_mono HO_0.out (fun _ hk => ⟨hk.1.1, ⟨hk.2, hk.1.2⟩⟩)⟩, ⟨by (with_reducible repeat (first | apply Kd.S_alloc | apply Kd.S_drewN | apply Kd.S_drew)); exact Kd.S_mono HO_4.out (fun _ hk => ⟨hk.1.1, ⟨hk.2, hk.1.2⟩⟩)⟩, ⟨by (with_reducible repeat (first | apply Kd.R_alloc | apply Kd.R_drewN | apply Kd.R_drew)); exact HO_9.out⟩, ⟨by (with_reducible repeat (first | apply Kd.R_alloc | apply Kd.R_drewN | apply Kd.R_drew)); exact Kd.R_mono HO_11.out (fun _ hk => hk.2)⟩, ⟨by repeat (first | (with_reducible first | exact HB.out | apply below_alloc | apply pw_below_drewN | apply below_drew1) | exact HB.out)⟩⟩
                    · rw [if_neg c27] at H
                      exact absurd H (by simp)
                  · rw [if_neg c26] at H
                    have c26b0 : decide (x14_3 < (x9_3.length : Int)) = false := decide_eq_false c26
                    clear c26
                    have H' := Aside0.mk H
                    clear H
                    obtain ⟨Ao32, co32, eo32⟩ := Kd.R_slice HO_9.out
                    subst eo32
                    go_wp2
                    repeat (go_quiet (fail); try go_wp2)
                    go_loopg [15] k3 (fun kq v15 w' => ∃ (x11_4 : List (S36)) (x15_4 : Int), v15 = .int .i64 x15_4 ∧ Aside0 (paliolaw13_AlgebraOwn.l3 kq t383 t382 t386 x11_4 x15_4 = some r) ∧ Aside0 (kq ≤ k3) ∧ Aside0 (Kd.S (Kd.slice 36 k36) 26 w' w.heap.size (fun k_ => some k_ ≠ (v387 : Value).ownBlock ∧ some k_ ≠ (v402 : Value).ownBlock) (.slice Ao7 t383.length co7) t383) ∧ Aside0 (Kd.S (Kd.slice 36 k36) 26 w' w.heap.size (fun k_ => some k_ ≠ ((.slice Ao7 t383.length co7) : Value).ownBlock ∧ some k_ ≠ (v402 : Value).ownBlock) v387 t386) ∧ Aside0 (Kd.R k36 36 w' w.heap.size (fun _ => True) v402 x11_4) ∧ Aside0 (Below w.heap.size w w'))
                    case atStart => exact ⟨(t400), (0), (by first | rfl | (simp; done) | (simp [*]; done)), H', ⟨Nat.le_refl _⟩, ⟨by (with_reducible repeat (first | apply Kd.S_alloc | apply Kd.S_drewN | apply Kd.S_drew)); exact Kd.S_mono HO_0.out (fun _ hk => ⟨hk.1, hk.2.2⟩)⟩, ⟨by (with_reducible repeat (first | apply Kd.S_alloc | apply Kd.S_drewN | apply Kd.S_drew)); exact Kd.S_mono HO_4.out (fun _ hk => ⟨hk.1, hk.2.2⟩)⟩, ⟨by (with_reducible repeat (first | apply Kd.R_alloc | apply Kd.R_drewN | apply Kd.R_drew)); exact Kd.R_mono HO_11.out (fun _ hk => trivial)⟩, ⟨by repeat (first | (with_reducible first | exact HB.out | apply below_alloc | apply pw_below_drewN | apply below_drew1) | exact HB.out)⟩⟩
                    case round =>
                      clear H'
                      try clear c1
                      try clear c2
                      try clear p2
                      try clear q2
                      try clear hx2
                      try clear hf2
                      try clear c3
                      try clear hx3
                      try clear hf3
                      try clear p6
                      try clear c7
                      try clear c9
                      try clear c9b0
                      try clear c10
                      try clear c19
                      try clear c19b0
                      try clear c20
                      try clear c20b0
                      try clear c21
                      try clear p21
                      try clear q21
                      try clear hx21
                      try clear hf21
                      try clear c23
                      try clear hx23
                      try clear hf23
                      try clear c26
                      try clear c26b0
                      try clear c27
                      try clear c27b0
                      try clear c28
                      try clear p28
                      try clear q28
                      try clear hx28
                      try clear hf28
                      try clear c30
                      try clear hx30
                      try clear hf30
                      try clear hx21_0
                      try clear hx21_1
                      try clear hx23_1
                      try clear hx28_0
                      try clear hx28_1
                      try clear hx30_1
                      try clear p2
                      try clear p21
                      try clear p28
                      try clear p6
                      try clear q2
                      try clear q21
                      try clear q28
                      obtain ⟨x11_4, x15_4, rfl, HA, HK4, HO_0, HO_4, HO_11, HB⟩ := hrel
                      cases gk with
                      | zero => exact absurd HA.out (by simp [paliolaw13_AlgebraOwn.l3])
                      | succ k4 =>
                        have H := HA.out
                        clear HA
                        simp only [paliolaw13_AlgebraOwn.l3] at H
                        by_cases c33 : x15_4 < (x11_4.length : Int)
                        · rw [if_pos c33] at H
                          have c33b0 : decide (x15_4 < (x11_4.length : Int)) = true := decide_eq_true c33
                          clear c33
                          by_cases c34 : 0 ≤ x15_4
                          · rw [if_pos c34] at H
                            have c34b0 : decide (0 ≤ x15_4) = true := decide_eq_true c34
                            clear c34
                            obtain ⟨y406, hy406⟩ : ∃ y_ : List (S36), y_ = (x11_4.set (x15_4 : Int).toNat (⟨(rd_T36 x11_4 x15_4).f0, 77⟩ : S36)) := ⟨_, rfl⟩
                            replace H : (paliolaw13_AlgebraOwn.l3 k4 t383 t382 t386 y406 (wrap64 (x15_4 + 1))) = some r := by first | (rw [hy406]; with_reducible exact H) | (have H2_ := (Option.bind_some _ _).symm.trans H; rw [hy406]; with_reducible exact H2_) | (have H2_ := (Option.bind_some _ _).symm.trans H; with_reducible exact H2_) | with_reducible exact H | (rw [hy406]; exact H) | exact H
                            have Ny406 := Aside0.mk hy406
                            clear hy406
                            have H' := Aside0.mk H
                            clear H
                            obtain ⟨Ao36, co36, eo36⟩ := Kd.R_slice HO_11.out
                            subst eo36
                            have p35 : 0 ≤ (x15_4 : Int) := of_decide_eq_true (by first | (with_reducible assumption) | assumption)
                            have q35 : (x15_4 : Int) < ((x11_4.length : Int) : Int) := of_decide_eq_true (by first | (with_reducible assumption) | assumption)
                            obtain ⟨go35, co35, eo35, gb35, gl35, cl35, HG35⟩ := Kd.R_form HO_11.out (by omega)
                            (first | cases eo35 | (injection eo35 with ea_ en_ ec_; (first | subst ea_ | (injection ea_ with ea_; subst ea_)); subst ec_; clear en_))
                            have GB35 := Aside0.mk gb35
                            have GG35 := Aside0.mk HG35
                            clear gb35 gl35 HG35
                            obtain ⟨ce35, hcl35, hM35, hcc35, hfr35⟩ := Kd.R_elem HO_11.out z36 (x15_4 : Int) p35 q35
                            obtain rfl := k36_openM hM35
                            have hx35_0 : wr.cell? ⟨go35, (x15_4 : Int).toNat * 2, none⟩ = some (.string ((rd_T36 x11_4 x15_4).f0)) := hcc35 0 _ rfl
                            have hx35_1 : wr.cell? ⟨go35, (x15_4 : Int).toNat * 2 + 1, none⟩ = some (.int .i64 ((rd_T36 x11_4 x15_4).f1)) := hcc35 1 _ rfl
                            have hf35_0 : wr.frozen? ⟨go35, (x15_4 : Int).toNat * 2, none⟩ = false := hfr35 0
                            have hf35_1 : wr.frozen? ⟨go35, (x15_4 : Int).toNat * 2 + 1, none⟩ = false := hfr35 1
                            clear hcl35 hcc35 hfr35 hM35
                            replace p35 := eq_true p35
                            replace q35 := eq_true q35
                            have HX37 := Aside0.mk (show Kd.R k36 36 wr w.heap.size (fun _ => True) (.slice (some ⟨go35, 0, none⟩) x11_4.length co36) x11_4 from (by (with_reducible repeat (first | apply Kd.R_alloc | apply Kd.R_drewN | apply Kd.R_drew)); exact HO_11.out))
                            obtain ⟨ce37, hcl37, hM37, hcc37, hfr37⟩ := Kd.R_elem HX37.out z36 (x15_4 : Int) (of_decide_eq_true (by first | (with_reducible assumption) | assumption)) (by have h_ : (x15_4 : Int) < ((x11_4.length : Int) : Int) := of_decide_eq_true (by first | (with_reducible assumption) | assumption); first | exact h_ | (have e_ := (Kd.R_reads' HO_11.out).1; omega) | simpa using h_)
                            obtain rfl := k36_openM hM37
                            have HP37 := Kd.R_seg HX37.out (x15_4 : Int) (of_decide_eq_true (by first | (with_reducible assumption) | assumption)) (by have h_ : (x15_4 : Int) < ((x11_4.length : Int) : Int) := of_decide_eq_true (by first | (with_reducible assumption) | assumption); first | exact h_ | (have e_ := (Kd.R_reads' HO_11.out).1; omega) | simpa using h_) (seg := [.int .i64 77]) (j := 1) hcl37 hcc37 (show 2 ≤ 2 from by decide) (x' := (⟨(rd_T36 x11_4 x15_4).f0, 77⟩ : S36)) (k36_mkM _ _ _ (⟨(rd_T36 x11_4 x15_4).f0, 77⟩ : S36) ) (fun _ hk => hk)
                            have hx37_1 := hcc37 1 _ rfl
                            (try simp only [show (k36).sz = 2 from rfl, Nat.mul_one, Nat.add_zero] at hx37_1)
                            have hf37_1 := hfr37 1
                            (try simp only [show (k36).sz = 2 from rfl, Nat.mul_one, Nat.add_zero] at hf37_1)
                            clear hcl37 hcc37 hfr37 hM37
                            go_wp2_with (first | ((with_reducible refine gate_store (t := 2) (p := 77) rfl ?_); (try (rw [drewN_self wr]; generalize hq_ : World.drewN wr _ = wr; have n0_ := Aside0.mk (Kd.S_at hq_ HO_0.out); have n1_ := Aside0.mk (Kd.S_at hq_ HO_4.out); have n2_ := Aside0.mk (Kd.R_at hq_ HO_11.out); have n3_ := Aside0.mk (below_at hq_ HB.out); clear hq_ HO_0 HO_4 HO_11 HB; have HO_0 := n0_; have HO_4 := n1_; have HO_11 := n2_; have HB := n3_; clear n0_ n1_ n2_ n3_; (try (have HX37 := Aside0.mk (show Kd.R k36 36 wr w.heap.size (fun _ => True) (.slice (some ⟨go35, 0, none⟩) x11_4.length co36) x11_4 from (by (with_reducible repeat (first | apply Kd.R_alloc | apply Kd.R_drewN | apply Kd.R_drew)); exact HO_11.out)))); (try (obtain ⟨ce37, hcl37, hM37, hcc37, hfr37⟩ := Kd.R_elem HX37.out z36 (x15_4 : Int) (of_decide_eq_true (by first | (with_reducible assumption) | assumption)) (by have h_ : (x15_4 : Int) < ((x11_4.length : Int) : Int) := of_decide_eq_true (by first | (with_reducible assumption) | assumption); first | exact h_ | (have e_ := (Kd.R_reads' HO_11.out).1; omega) | simpa using h_))); (try (obtain rfl := k36_openM hM37)); (try (have HP37 := Kd.R_seg HX37.out (x15_4 : Int) (of_decide_eq_true (by first | (with_reducible assumption) | assumption)) (by have h_ : (x15_4 : Int) < ((x11_4.length : Int) : Int) := of_decide_eq_true (by first | (with_reducible assumption) | assumption); first | exact h_ | (have e_ := (Kd.R_reads' HO_11.out).1; omega) | simpa using h_) (seg := [.int .i64 77]) (j := 1) hcl37 hcc37 (show 2 ≤ 2 from by decide) (x' := (⟨(rd_T36 x11_4 x15_4).f0, 77⟩ : S36)) (k36_mkM _ _ _ (⟨(rd_T36 x11_4 x15_4).f0, 77⟩ : S36) ) (fun _ hk => hk))); (try (have hx37_1 := hcc37 1 _ rfl)); (try (try simp only [show (k36).sz = 2 from rfl, Nat.mul_one, Nat.add_zero] at hx37_1)); (try (have hf37_1 := hfr37 1)); (try (try simp only [show (k36).sz = 2 from rfl, Nat.mul_one, Nat.add_zero] at hf37_1)); (try (clear hcl37 hcc37 hfr37 hM37)))); refine store_event (t := 2) (p := 77) (v := ?vo_w38) (w1 := (wr.setCell ⟨go35, (x15_4 : Int).toNat * 2 + 1, none⟩ (.int .i64 77))) ?hg ?ho ?hn ?hr ?_; (case ho => rfl); (case hg => rfl); (case hn => rfl); (case hr => first | (go_simp; done) | (go_simp; rfl)); intro w38 hw; have hg : wr.grownBy w38 (some go35) := (by rw [hw]; exact HP37.2); have hp_ : Kd.R k36 36 w38 w.heap.size (fun _ => True) (.slice (some ⟨go35, 0, none⟩) x11_4.length co36) y406 := (by rw [hw, Ny406.out]; exact HP37.1); clear HP37; have n0_ := Aside0.mk (Kd.S_after (v := (.slice (some ⟨go35, 0, none⟩) x11_4.length co36)) (v1 := (.slice (some ⟨go35, 0, none⟩) x11_4.length co36)) (ok := (fun k_ => some k_ ≠ (v387 : Value).ownBlock)) (by (with_reducible repeat (first | apply Kd.S_alloc | apply Kd.S_drewN | apply Kd.S_drew)); exact HO_0.out) hg (.inl rfl)); have n1_ := Aside0.mk (Kd.S_after (v := (.slice (some ⟨go35, 0, none⟩) x11_4.length co36)) (v1 := (.slice (some ⟨go35, 0, none⟩) x11_4.length co36)) (ok := (fun k_ => some k_ ≠ (.slice Ao7 t383.length co7 : Value).ownBlock)) (by (with_reducible repeat (first | apply Kd.S_alloc | apply Kd.S_drewN | apply Kd.S_drew)); exact HO_4.out) hg (.inl rfl)); have n2_ := Aside0.mk (hp_); have n3_ := Aside0.mk ((by rw [hw]; exact below_set (HB.out) GB35.out : Below w.heap.size w w38)); clear HO_0; clear HO_4; clear HO_11; clear HB; have HO_0 := n0_; have HO_4 := n1_; have HO_11 := n2_; have HB := n3_; clear n0_ n1_ n2_ n3_; clear hg hw hp_))
                            repeat (go_quiet (first | ((with_reducible refine gate_store (t := 2) (p := 77) rfl ?_); (try (rw [drewN_self wr]; generalize hq_ : World.drewN wr _ = wr; have n0_ := Aside0.mk (Kd.S_at hq_ HO_0.out); have n1_ := Aside0.mk (Kd.S_at hq_ HO_4.out); have n2_ := Aside0.mk (Kd.R_at hq_ HO_11.out); have n3_ := Aside0.mk (below_at hq_ HB.out); clear hq_ HO_0 HO_4 HO_11 HB; have HO_0 := n0_; have HO_4 := n1_; have HO_11 := n2_; have HB := n3_; clear n0_ n1_ n2_ n3_; (try (have HX37 := Aside0.mk (show Kd.R k36 36 wr w.heap.size (fun _ => True) (.slice (some ⟨go35, 0, none⟩) x11_4.length co36) x11_4 from (by (with_reducible repeat (first | apply Kd.R_alloc | apply Kd.R_drewN | apply Kd.R_drew)); exact HO_11.out)))); (try (obtain ⟨ce37, hcl37, hM37, hcc37, hfr37⟩ := Kd.R_elem HX37.out z36 (x15_4 : Int) (of_decide_eq_true (by first | (with_reducible assumption) | assumption)) (by have h_ : (x15_4 : Int) < ((x11_4.length : Int) : Int) := of_decide_eq_true (by first | (with_reducible assumption) | assumption); first | exact h_ | (have e_ := (Kd.R_reads' HO_11.out).1; omega) | simpa using h_))); (try (obtain rfl := k36_openM hM37)); (try (have HP37 := Kd.R_seg HX37.out (x15_4 : Int) (of_decide_eq_true (by first | (with_reducible assumption) | assumption)) (by have h_ : (x15_4 : Int) < ((x11_4.length : Int) : Int) := of_decide_eq_true (by first | (with_reducible assumption) | assumption); first | exact h_ | (have e_ := (Kd.R_reads' HO_11.out).1; omega) | simpa using h_) (seg := [.int .i64 77]) (j := 1) hcl37 hcc37 (show 2 ≤ 2 from by decide) (x' := (⟨(rd_T36 x11_4 x15_4).f0, 77⟩ : S36)) (k36_mkM _ _ _ (⟨(rd_T36 x11_4 x15_4).f0, 77⟩ : S36) ) (fun _ hk => hk))); (try (have hx37_1 := hcc37 1 _ rfl)); (try (try simp only [show (k36).sz = 2 from rfl, Nat.mul_one, Nat.add_zero] at hx37_1)); (try (have hf37_1 := hfr37 1)); (try (try simp only [show (k36).sz = 2 from rfl, Nat.mul_one, Nat.add_zero] at hf37_1)); (try (clear hcl37 hcc37 hfr37 hM37)))); refine store_event (t := 2) (p := 77) (v := ?vo_w38) (w1 := (wr.setCell ⟨go35, (x15_4 : Int).toNat * 2 + 1, none⟩ (.int .i64 77))) ?hg ?ho ?hn ?hr ?_; (case ho => rfl); (case hg => rfl); (case hn => rfl); (case hr => first | (go_simp; done) | (go_simp; rfl)); intro w38 hw; have hg : wr.grownBy w38 (some go35) := (by rw [hw]; exact HP37.2); have hp_ : Kd.R k36 36 w38 w.heap.size (fun _ => True) (.slice (some ⟨go35, 0, none⟩) x11_4.length co36) y406 := (by rw [hw, Ny406.out]; exact HP37.1); clear HP37; have n0_ := Aside0.mk (Kd.S_after (v := (.slice (some ⟨go35, 0, none⟩) x11_4.length co36)) (v1 := (.slice (some ⟨go35, 0, none⟩) x11_4.length co36)) (ok := (fun k_ => some k_ ≠ (v387 : Value).ownBlock)) (by (with_reducible repeat (first | apply Kd.S_alloc | apply Kd.S_drewN | apply Kd.S_drew)); exact HO_0.out) hg (.inl rfl)); have n1_ := Aside0.mk (Kd.S_after (v := (.slice (some ⟨go35, 0, none⟩) x11_4.length co36)) (v1 := (.slice (some ⟨go35, 0, none⟩) x11_4.length co36)) (ok := (fun k_ => some k_ ≠ (.slice Ao7 t383.length co7 : Value).ownBlock)) (by (with_reducible repeat (first | apply Kd.S_alloc | apply Kd.S_drewN | apply Kd.S_drew)); exact HO_4.out) hg (.inl rfl)); have n2_ := Aside0.mk (hp_); have n3_ := Aside0.mk ((by rw [hw]; exact below_set (HB.out) GB35.out : Below w.heap.size w w38)); clear HO_0; clear HO_4; clear HO_11; clear HB; have HO_0 := n0_; have HO_4 := n1_; have HO_11 := n2_; have HB := n3_; clear n0_ n1_ n2_ n3_; clear hg hw hp_)); try go_wp2_with (first | ((with_reducible refine gate_store (t := 2) (p := 77) rfl ?_); (try (rw [drewN_self wr]; generalize hq_ : World.drewN wr _ = wr; have n0_ := Aside0.mk (Kd.S_at hq_ HO_0.out); have n1_ := Aside0.mk (Kd.S_at hq_ HO_4.out); have n2_ := Aside0.mk (Kd.R_at hq_ HO_11.out); have n3_ := Aside0.mk (below_at hq_ HB.out); clear hq_ HO_0 HO_4 HO_11 HB; have HO_0 := n0_; have HO_4 := n1_; have HO_11 := n2_; have HB := n3_; clear n0_ n1_ n2_ n3_; (try (have HX37 := Aside0.mk (show Kd.R k36 36 wr w.heap.size (fun _ => True) (.slice (some ⟨go35, 0, none⟩) x11_4.length co36) x11_4 from (by (with_reducible repeat (first | apply Kd.R_alloc | apply Kd.R_drewN | apply Kd.R_drew)); exact HO_11.out)))); (try (obtain ⟨ce37, hcl37, hM37, hcc37, hfr37⟩ := Kd.R_elem HX37.out z36 (x15_4 : Int) (of_decide_eq_true (by first | (with_reducible assumption) | assumption)) (by have h_ : (x15_4 : Int) < ((x11_4.length : Int) : Int) := of_decide_eq_true (by first | (with_reducible assumption) | assumption); first | exact h_ | (have e_ := (Kd.R_reads' HO_11.out).1; omega) | simpa using h_))); (try (obtain rfl := k36_openM hM37)); (try (have HP37 := Kd.R_seg HX37.out (x15_4 : Int) (of_decide_eq_true (by first | (with_reducible assumption) | assumption)) (by have h_ : (x15_4 : Int) < ((x11_4.length : Int) : Int) := of_decide_eq_true (by first | (with_reducible assumption) | assumption); first | exact h_ | (have e_ := (Kd.R_reads' HO_11.out).1; omega) | simpa using h_) (seg := [.int .i64 77]) (j := 1) hcl37 hcc37 (show 2 ≤ 2 from by decide) (x' := (⟨(rd_T36 x11_4 x15_4).f0, 77⟩ : S36)) (k36_mkM _ _ _ (⟨(rd_T36 x11_4 x15_4).f0, 77⟩ : S36) ) (fun _ hk => hk))); (try (have hx37_1 := hcc37 1 _ rfl)); (try (try simp only [show (k36).sz = 2 from rfl, Nat.mul_one, Nat.add_zero] at hx37_1)); (try (have hf37_1 := hfr37 1)); (try (try simp only [show (k36).sz = 2 from rfl, Nat.mul_one, Nat.add_zero] at hf37_1)); (try (clear hcl37 hcc37 hfr37 hM37)))); refine store_event (t := 2) (p := 77) (v := ?vo_w38) (w1 := (wr.setCell ⟨go35, (x15_4 : Int).toNat * 2 + 1, none⟩ (.int .i64 77))) ?hg ?ho ?hn ?hr ?_; (case ho => rfl); (case hg => rfl); (case hn => rfl); (case hr => first | (go_simp; done) | (go_simp; rfl)); intro w38 hw; have hg : wr.grownBy w38 (some go35) := (by rw [hw]; exact HP37.2); have hp_ : Kd.R k36 36 w38 w.heap.size (fun _ => True) (.slice (some ⟨go35, 0, none⟩) x11_4.length co36) y406 := (by rw [hw, Ny406.out]; exact HP37.1); clear HP37; have n0_ := Aside0.mk (Kd.S_after (v := (.slice (some ⟨go35, 0, none⟩) x11_4.length co36)) (v1 := (.slice (some ⟨go35, 0, none⟩) x11_4.length co36)) (ok := (fun k_ => some k_ ≠ (v387 : Value).ownBlock)) (by (with_reducible repeat (first | apply Kd.S_alloc | apply Kd.S_drewN | apply Kd.S_drew)); exact HO_0.out) hg (.inl rfl)); have n1_ := Aside0.mk (Kd.S_after (v := (.slice (some ⟨go35, 0, none⟩) x11_4.length co36)) (v1 := (.slice (some ⟨go35, 0, none⟩) x11_4.length co36)) (ok := (fun k_ => some k_ ≠ (.slice Ao7 t383.length co7 : Value).ownBlock)) (by (with_reducible repeat (first | apply Kd.S_alloc | apply Kd.S_drewN | apply Kd.S_drew)); exact HO_4.out) hg (.inl rfl)); have n2_ := Aside0.mk (hp_); have n3_ := Aside0.mk ((by rw [hw]; exact below_set (HB.out) GB35.out : Below w.heap.size w w38)); clear HO_0; clear HO_4; clear HO_11; clear HB; have HO_0 := n0_; have HO_4 := n1_; have HO_11 := n2_; have HB := n3_; clear n0_ n1_ n2_ n3_; clear hg hw hp_)))
                            go_roundg k4
                            case measure => have := HK1.out; have := HK2.out; have := HK3.out; have := HK4.out; omega
                            case rel => exact ⟨(y406), (wrap64 (x15_4 + 1)), (by first | rfl | (simp; done) | (simp [*]; done)), H', ⟨by have := HK1.out; have := HK2.out; have := HK3.out; have := HK4.out; omega⟩, ⟨by (with_reducible repeat (first | apply Kd.S_alloc | apply Kd.S_drewN | apply Kd.S_drew)); exact HO_0.out⟩, ⟨by (with_reducible repeat (first | apply Kd.S_alloc | apply Kd.S_drewN | apply Kd.S_drew)); exact HO_4.out⟩, ⟨by (with_reducible repeat (first | apply Kd.R_alloc | apply Kd.R_drewN | apply Kd.R_drew)); exact HO_11.out⟩, ⟨by repeat (first | (with_reducible first | exact HB.out | apply below_alloc | apply pw_below_drewN | apply below_drew1) | exact HB.out)⟩⟩
                          · rw [if_neg c34] at H
                            exact absurd H (by simp)
                        · rw [if_neg c33] at H
                          have c33b0 : decide (x15_4 < (x11_4.length : Int)) = false := decide_eq_false c33
                          clear c33
                          have H' := Aside0.mk H
                          clear H
                          obtain ⟨Ao39, co39, eo39⟩ := Kd.R_slice HO_11.out
                          subst eo39
                          go_wp2
                          repeat (go_quiet (fail); try go_wp2)
                          go_loopg [16] k4 (fun kq v16 w' => ∃ (x16_5 : Int), v16 = .int .i64 x16_5 ∧ Aside0 (paliolaw13_AlgebraOwn.l4 kq t383 t382 t386 x16_5 = some r) ∧ Aside0 (kq ≤ k4) ∧ Aside0 (Kd.S (Kd.slice 36 k36) 26 w' w.heap.size (fun k_ => some k_ ≠ (v387 : Value).ownBlock) (.slice Ao7 t383.length co7) t383) ∧ Aside0 (Kd.S (Kd.slice 36 k36) 26 w' w.heap.size (fun k_ => some k_ ≠ ((.slice Ao7 t383.length co7) : Value).ownBlock) v387 t386) ∧ Aside0 (Below w.heap.size w w'))
                          case atStart => exact ⟨(0), (by first | rfl | (simp; done) | (simp [*]; done)), H', ⟨Nat.le_refl _⟩, ⟨by (with_reducible repeat (first | apply Kd.S_alloc | apply Kd.S_drewN | apply Kd.S_drew)); exact Kd.S_mono HO_0.out (fun _ hk => hk.1)⟩, ⟨by (with_reducible repeat (first | apply Kd.S_alloc | apply Kd.S_drewN | apply Kd.S_drew)); exact Kd.S_mono HO_4.out (fun _ hk => hk.1)⟩, ⟨by repeat (first | (with_reducible first | exact HB.out | apply below_alloc | apply pw_below_drewN | apply below_drew1) | exact HB.out)⟩⟩
                          case round =>
                            clear H'
                            try clear c1
                            try clear c2
                            try clear p2
                            try clear q2
                            try clear hx2
                            try clear hf2
                            try clear c3
                            try clear p3
                            try clear q3
                            try clear hx3
                            try clear hf3
                            try clear p6
                            try clear c7
                            try clear c9
                            try clear c9b0
                            try clear c10
                            try clear c19
                            try clear c19b0
                            try clear c20
                            try clear c20b0
                            try clear c21
                            try clear p21
                            try clear q21
                            try clear hx21
                            try clear hf21
                            try clear c23
                            try clear hx23
                            try clear hf23
                            try clear c26
                            try clear c26b0
                            try clear c27
                            try clear c27b0
                            try clear c28
                            try clear p28
                            try clear q28
                            try clear hx28
                            try clear hf28
                            try clear c30
                            try clear hx30
                            try clear hf30
                            try clear c33
                            try clear c33b0
                            try clear c34
                            try clear c34b0
                            try clear c35
                            try clear p35
                            try clear q35
                            try clear hx35
                            try clear hf35
                            try clear c37
                            try clear hx37
                            try clear hf37
                            try clear hx21_0
                            try clear hx21_1
                            try clear hx23_1
                            try clear hx28_0
                            try clear hx28_1
                            try clear hx30_1
                            try clear hx35_0
                            try clear hx35_1
                            try clear hx37_1
                            try clear p2
                            try clear p21
                            try clear p28
                            try clear p35
                            try clear p6
                            try clear q2
                            try clear q21
                            try clear q28
                            try clear q35
                            obtain ⟨x16_5, rfl, HA, HK5, HO_0, HO_4, HB⟩ := hrel
                            cases gk with
                            | zero => exact absurd HA.out (by simp [paliolaw13_AlgebraOwn.l4])
                            | succ k5 =>
                              have H := HA.out
                              clear HA
                              simp only [paliolaw13_AlgebraOwn.l4] at H
                              by_cases c40 : x16_5 < (t383.length : Int)
                              · rw [if_pos c40] at H
                                have c40b0 : decide (x16_5 < (t383.length : Int)) = true := decide_eq_true c40
                                clear c40
                                by_cases c41 : 0 ≤ x16_5
                                · rw [if_pos c41] at H
                                  have c41b0 : decide (0 ≤ x16_5) = true := decide_eq_true c41
                                  clear c41
                                  by_cases c42 : x16_5 < (t386.length : Int)
                                  · rw [if_pos c42] at H
                                    have c42b0 : decide (x16_5 < (t386.length : Int)) = true := decide_eq_true c42
                                    clear c42
                                    replace H := Option.bind_eq_some_iff.mp H
                                    obtain ⟨t409, A430, H⟩ := H
                                    replace H : (if t409 = true then (paliolaw13_AlgebraOwn.l4 k5 t383 t382 t386 (wrap64 (x16_5 + 1))) else (some false)) = some r := H
                                    have A43 := Aside0.mk A430
                                    clear A430
                                    by_cases c44 : t409 = true
                                    · subst c44
                                      have H1 : (paliolaw13_AlgebraOwn.l4 k5 t383 t382 t386 (wrap64 (x16_5 + 1))) = some r := by rw [if_pos rfl] at H; exact H
                                      clear H
                                      have H := H1
                                      clear H1
                                      have H' := Aside0.mk H
                                      clear H
                                      have p407 : 0 ≤ (x16_5 : Int) := of_decide_eq_true (by first | (with_reducible assumption) | assumption)
                                      have q407 : x16_5 < (t383.length : Int) := of_decide_eq_true (by first | (with_reducible assumption) | assumption)
                                      obtain ⟨ad407, A407_0, c407_0, e407, hx407_0, hl407_0, hi407_0⟩ := at_L3 (Kd.S_reads' HO_0.out).2.2 x16_5 p407 q407
                                      cases e407
                                      obtain ⟨ce407, hce407, hMe407, hcc407⟩ := Kd.S_get HO_0.out [] x16_5 p407 (by first | exact q407 | exact of_decide_eq_true (by first | (with_reducible assumption) | assumption) | (have e_ := (Kd.S_reads' HO_0.out).1; omega))
                                      obtain ⟨ve407_0, rfl, ge407_0⟩ := hMe407
                                      have hv407_0 := hcc407 0 _ rfl
                                      rw [Nat.add_zero, show ((Kd.slice 36 k36)).sz = 1 from rfl, Nat.mul_one] at hv407_0
                                      replace hv407_0 := Option.some.inj (hv407_0.symm.trans hx407_0)
                                      rw [hv407_0] at ge407_0
                                      have HL407_0 := Aside0.mk (show Kd.R k36 36 _ _ _ _ (rd_L3 t383 x16_5) from ge407_0)
                                      clear hv407_0 ge407_0
                                      clear hcc407 hce407
                                      have HR407_0 := Aside0.mk hi407_0
                                      have HC407_0 := Aside0.mk hl407_0
                                      clear hi407_0 hl407_0
                                      replace p407 := eq_true p407
                                      replace q407 := eq_true q407
                                      obtain ⟨Ao45, co45, eo45⟩ := Kd.S_slice HO_4.out
                                      subst eo45
                                      have p408 : 0 ≤ (x16_5 : Int) := of_decide_eq_true (by first | (with_reducible assumption) | assumption)
                                      have q408 : x16_5 < (t386.length : Int) := of_decide_eq_true (by first | (with_reducible assumption) | assumption)
                                      obtain ⟨ad408, A408_0, c408_0, e408, hx408_0, hl408_0, hi408_0⟩ := at_L3 (Kd.S_reads' HO_4.out).2.2 x16_5 p408 q408
                                      cases e408
                                      obtain ⟨ce408, hce408, hMe408, hcc408⟩ := Kd.S_get HO_4.out [] x16_5 p408 (by first | exact q408 | exact of_decide_eq_true (by first | (with_reducible assumption) | assumption) | (have e_ := (Kd.S_reads' HO_4.out).1; omega))
                                      obtain ⟨ve408_0, rfl, ge408_0⟩ := hMe408
                                      have hv408_0 := hcc408 0 _ rfl
                                      rw [Nat.add_zero, show ((Kd.slice 36 k36)).sz = 1 from rfl, Nat.mul_one] at hv408_0
                                      replace hv408_0 := Option.some.inj (hv408_0.symm.trans hx408_0)
                                      rw [hv408_0] at ge408_0
                                      have HL408_0 := Aside0.mk (show Kd.R k36 36 _ _ _ _ (rd_L3 t386 x16_5) from ge408_0)
                                      clear hv408_0 ge408_0
                                      clear hcc408 hce408
                                      have HR408_0 := Aside0.mk hi408_0
                                      have HC408_0 := Aside0.mk hl408_0
                                      clear hi408_0 hl408_0
                                      replace p408 := eq_true p408
                                      replace q408 := eq_true q408
                                      go_wp2_with (first | (go_at_call 18; (with_reducible refine (palioref05_Same.calls k5 _ _ (rd_L3 t383 x16_5) _ _ (rd_L3 t386 x16_5) true _ ?side1 ?side2 ?side3 ?side4 A43.out).mono ?_); (case side1 => repeat (first | exact (by repeat (first | (with_reducible exact HR407_0.out) | (with_reducible refine Kd.C_alloc ?_ _) | (with_reducible refine Kd.C_drewN ?_ _) | (with_reducible refine Kd.C_drew ?_) | exact HR407_0.out)) | (with_reducible refine Kd.C_alloc ?_ _) | (with_reducible refine Kd.C_drewN ?_ _) | (with_reducible refine Kd.C_drew ?_))); (case side2 => exact HC407_0.out); (case side3 => repeat (first | exact (by repeat (first | (with_reducible exact HR408_0.out) | (with_reducible refine Kd.C_alloc ?_ _) | (with_reducible refine Kd.C_drewN ?_ _) | (with_reducible refine Kd.C_drew ?_) | exact HR408_0.out)) | (with_reducible refine Kd.C_alloc ?_ _) | (with_reducible refine Kd.C_drewN ?_ _) | (with_reducible refine Kd.C_drew ?_))); (case side4 => exact HC408_0.out); rintro e w' ⟨rfl, ⟨nd, rfl⟩⟩; (try first | exact ⟨rfl, _, World.drewN_drewN _ _ _⟩ | exact ⟨rfl, _, Eq.trans (World.drewN_drewN _ _ _) (congrArg (World.drewN _) (Nat.add_assoc _ _ _))⟩)))
                                      repeat (go_quiet (first | (go_at_call 18; (with_reducible refine (palioref05_Same.calls k5 _ _ (rd_L3 t383 x16_5) _ _ (rd_L3 t386 x16_5) true _ ?side1 ?side2 ?side3 ?side4 A43.out).mono ?_); (case side1 => repeat (first | exact (by repeat (first | (with_reducible exact HR407_0.out) | (with_reducible refine Kd.C_alloc ?_ _) | (with_reducible refine Kd.C_drewN ?_ _) | (with_reducible refine Kd.C_drew ?_) | exact HR407_0.out)) | (with_reducible refine Kd.C_alloc ?_ _) | (with_reducible refine Kd.C_drewN ?_ _) | (with_reducible refine Kd.C_drew ?_))); (case side2 => exact HC407_0.out); (case side3 => repeat (first | exact (by repeat (first | (with_reducible exact HR408_0.out) | (with_reducible refine Kd.C_alloc ?_ _) | (with_reducible refine Kd.C_drewN ?_ _) | (with_reducible refine Kd.C_drew ?_) | exact HR408_0.out)) | (with_reducible refine Kd.C_alloc ?_ _) | (with_reducible refine Kd.C_drewN ?_ _) | (with_reducible refine Kd.C_drew ?_))); (case side4 => exact HC408_0.out); rintro e w' ⟨rfl, ⟨nd, rfl⟩⟩; (try first | exact ⟨rfl, _, World.drewN_drewN _ _ _⟩ | exact ⟨rfl, _, Eq.trans (World.drewN_drewN _ _ _) (congrArg (World.drewN _) (Nat.add_assoc _ _ _))⟩))); try go_wp2_with (first | (go_at_call 18; (with_reducible refine (palioref05_Same.calls k5 _ _ (rd_L3 t383 x16_5) _ _ (rd_L3 t386 x16_5) true _ ?side1 ?side2 ?side3 ?side4 A43.out).mono ?_); (case side1 => repeat (first | exact (by repeat (first | (with_reducible exact HR407_0.out) | (with_reducible refine Kd.C_alloc ?_ _) | (with_reducible refine Kd.C_drewN ?_ _) | (with_reducible refine Kd.C_drew ?_) | exact HR407_0.out)) | (with_reducible refine Kd.C_alloc ?_ _) | (with_reducible refine Kd.C_drewN ?_ _) | (with_reducible refine Kd.C_drew ?_))); (case side2 => exact HC407_0.out); (case side3 => repeat (first | exact (by repeat (first | (with_reducible exact HR408_0.out) | (with_reducible refine Kd.C_alloc ?_ _) | (with_reducible refine Kd.C_drewN ?_ _) | (with_reducible refine Kd.C_drew ?_) | exact HR408_0.out)) | (with_reducible refine Kd.C_alloc ?_ _) | (with_reducible refine Kd.C_drewN ?_ _) | (with_reducible refine Kd.C_drew ?_))); (case side4 => exact HC408_0.out); rintro e w' ⟨rfl, ⟨nd, rfl⟩⟩; (try first | exact ⟨rfl, _, World.drewN_drewN _ _ _⟩ | exact ⟨rfl, _, Eq.trans (World.drewN_drewN _ _ _) (congrArg (World.drewN _) (Nat.add_assoc _ _ _))⟩))))
                                      go_roundg k5
                                      case measure => have := HK1.out; have := HK2.out; have := HK3.out; have := HK4.out; have := HK5.out; omega
                                      case rel => exact ⟨(wrap64 (x16_5 + 1)), (by first | rfl | (simp; done) | (simp [*]; done)), H', ⟨by have := HK1.out; have := HK2.out; have := HK3.out; have := HK4.out; have := HK5.out; omega⟩, ⟨by (with_reducible repeat (first | apply Kd.S_alloc | apply Kd.S_drewN | apply Kd.S_drew)); exact HO_0.out⟩, ⟨by (with_reducible repeat (first | apply Kd.S_alloc | apply Kd.S_drewN | apply Kd.S_drew)); exact HO_4.out⟩, ⟨by repeat (first | (with_reducible first | exact HB.out | apply below_alloc | apply pw_below_drewN | apply below_drew1) | exact HB.out)⟩⟩
                                    · replace c44 := Bool.eq_false_iff.mpr c44
                                      subst c44
                                      have H1 : (some false) = some r := by rw [if_neg (show ¬ (false = true) by decide)] at H; exact H
                                      clear H
                                      have H := H1
                                      clear H1
                                      obtain rfl := Option.some.inj H
                                      have p407 : 0 ≤ (x16_5 : Int) := of_decide_eq_true (by first | (with_reducible assumption) | assumption)
                                      have q407 : x16_5 < (t383.length : Int) := of_decide_eq_true (by first | (with_reducible assumption) | assumption)
                                      obtain ⟨ad407, A407_0, c407_0, e407, hx407_0, hl407_0, hi407_0⟩ := at_L3 (Kd.S_reads' HO_0.out).2.2 x16_5 p407 q407
                                      cases e407
                                      obtain ⟨ce407, hce407, hMe407, hcc407⟩ := Kd.S_get HO_0.out [] x16_5 p407 (by first | exact q407 | exact of_decide_eq_true (by first | (with_reducible assumption) | assumption) | (have e_ := (Kd.S_reads' HO_0.out).1; omega))
                                      obtain ⟨ve407_0, rfl, ge407_0⟩ := hMe407
                                      have hv407_0 := hcc407 0 _ rfl
                                      rw [Nat.add_zero, show ((Kd.slice 36 k36)).sz = 1 from rfl, Nat.mul_one] at hv407_0
                                      replace hv407_0 := Option.some.inj (hv407_0.symm.trans hx407_0)
                                      rw [hv407_0] at ge407_0
                                      have HL407_0 := Aside0.mk (show Kd.R k36 36 _ _ _ _ (rd_L3 t383 x16_5) from ge407_0)
                                      clear hv407_0 ge407_0
                                      clear hcc407 hce407
                                      have HR407_0 := Aside0.mk hi407_0
                                      have HC407_0 := Aside0.mk hl407_0
                                      clear hi407_0 hl407_0
                                      replace p407 := eq_true p407
                                      replace q407 := eq_true q407
                                      obtain ⟨Ao46, co46, eo46⟩ := Kd.S_slice HO_4.out
                                      subst eo46
                                      have p408 : 0 ≤ (x16_5 : Int) := of_decide_eq_true (by first | (with_reducible assumption) | assumption)
                                      have q408 : x16_5 < (t386.length : Int) := of_decide_eq_true (by first | (with_reducible assumption) | assumption)
                                      obtain ⟨ad408, A408_0, c408_0, e408, hx408_0, hl408_0, hi408_0⟩ := at_L3 (Kd.S_reads' HO_4.out).2.2 x16_5 p408 q408
                                      cases e408
                                      obtain ⟨ce408, hce408, hMe408, hcc408⟩ := Kd.S_get HO_4.out [] x16_5 p408 (by first | exact q408 | exact of_decide_eq_true (by first | (with_reducible assumption) | assumption) | (have e_ := (Kd.S_reads' HO_4.out).1; omega))
                                      obtain ⟨ve408_0, rfl, ge408_0⟩ := hMe408
                                      have hv408_0 := hcc408 0 _ rfl
                                      rw [Nat.add_zero, show ((Kd.slice 36 k36)).sz = 1 from rfl, Nat.mul_one] at hv408_0
                                      replace hv408_0 := Option.some.inj (hv408_0.symm.trans hx408_0)
                                      rw [hv408_0] at ge408_0
                                      have HL408_0 := Aside0.mk (show Kd.R k36 36 _ _ _ _ (rd_L3 t386 x16_5) from ge408_0)
                                      clear hv408_0 ge408_0
                                      clear hcc408 hce408
                                      have HR408_0 := Aside0.mk hi408_0
                                      have HC408_0 := Aside0.mk hl408_0
                                      clear hi408_0 hl408_0
                                      replace p408 := eq_true p408
                                      replace q408 := eq_true q408
                                      go_wp2_with (first | (go_at_call 18; (with_reducible refine (palioref05_Same.calls k5 _ _ (rd_L3 t383 x16_5) _ _ (rd_L3 t386 x16_5) false _ ?side1 ?side2 ?side3 ?side4 A43.out).mono ?_); (case side1 => repeat (first | exact (by repeat (first | (with_reducible exact HR407_0.out) | (with_reducible refine Kd.C_alloc ?_ _) | (with_reducible refine Kd.C_drewN ?_ _) | (with_reducible refine Kd.C_drew ?_) | exact HR407_0.out)) | (with_reducible refine Kd.C_alloc ?_ _) | (with_reducible refine Kd.C_drewN ?_ _) | (with_reducible refine Kd.C_drew ?_))); (case side2 => exact HC407_0.out); (case side3 => repeat (first | exact (by repeat (first | (with_reducible exact HR408_0.out) | (with_reducible refine Kd.C_alloc ?_ _) | (with_reducible refine Kd.C_drewN ?_ _) | (with_reducible refine Kd.C_drew ?_) | exact HR408_0.out)) | (with_reducible refine Kd.C_alloc ?_ _) | (with_reducible refine Kd.C_drewN ?_ _) | (with_reducible refine Kd.C_drew ?_))); (case side4 => exact HC408_0.out); rintro e w' ⟨rfl, ⟨nd, rfl⟩⟩; (try first | exact ⟨rfl, _, World.drewN_drewN _ _ _⟩ | exact ⟨rfl, _, Eq.trans (World.drewN_drewN _ _ _) (congrArg (World.drewN _) (Nat.add_assoc _ _ _))⟩)))
                                      repeat (go_quiet (first | (go_at_call 18; (with_reducible refine (palioref05_Same.calls k5 _ _ (rd_L3 t383 x16_5) _ _ (rd_L3 t386 x16_5) false _ ?side1 ?side2 ?side3 ?side4 A43.out).mono ?_); (case side1 => repeat (first | exact (by repeat (first | (with_reducible exact HR407_0.out) | (with_reducible refine Kd.C_alloc ?_ _) | (with_reducible refine Kd.C_drewN ?_ _) | (with_reducible refine Kd.C_drew ?_) | exact HR407_0.out)) | (with_reducible refine Kd.C_alloc ?_ _) | (with_reducible refine Kd.C_drewN ?_ _) | (with_reducible refine Kd.C_drew ?_))); (case side2 => exact HC407_0.out); (case side3 => repeat (first | exact (by repeat (first | (with_reducible exact HR408_0.out) | (with_reducible refine Kd.C_alloc ?_ _) | (with_reducible refine Kd.C_drewN ?_ _) | (with_reducible refine Kd.C_drew ?_) | exact HR408_0.out)) | (with_reducible refine Kd.C_alloc ?_ _) | (with_reducible refine Kd.C_drewN ?_ _) | (with_reducible refine Kd.C_drew ?_))); (case side4 => exact HC408_0.out); rintro e w' ⟨rfl, ⟨nd, rfl⟩⟩; (try first | exact ⟨rfl, _, World.drewN_drewN _ _ _⟩ | exact ⟨rfl, _, Eq.trans (World.drewN_drewN _ _ _) (congrArg (World.drewN _) (Nat.add_assoc _ _ _))⟩))); try go_wp2_with (first | (go_at_call 18; (with_reducible refine (palioref05_Same.calls k5 _ _ (rd_L3 t383 x16_5) _ _ (rd_L3 t386 x16_5) false _ ?side1 ?side2 ?side3 ?side4 A43.out).mono ?_); (case side1 => repeat (first | exact (by repeat (first | (with_reducible exact HR407_0.out) | (with_reducible refine Kd.C_alloc ?_ _) | (with_reducible refine Kd.C_drewN ?_ _) | (with_reducible refine Kd.C_drew ?_) | exact HR407_0.out)) | (with_reducible refine Kd.C_alloc ?_ _) | (with_reducible refine Kd.C_drewN ?_ _) | (with_reducible refine Kd.C_drew ?_))); (case side2 => exact HC407_0.out); (case side3 => repeat (first | exact (by repeat (first | (with_reducible exact HR408_0.out) | (with_reducible refine Kd.C_alloc ?_ _) | (with_reducible refine Kd.C_drewN ?_ _) | (with_reducible refine Kd.C_drew ?_) | exact HR408_0.out)) | (with_reducible refine Kd.C_alloc ?_ _) | (with_reducible refine Kd.C_drewN ?_ _) | (with_reducible refine Kd.C_drew ?_))); (case side4 => exact HC408_0.out); rintro e w' ⟨rfl, ⟨nd, rfl⟩⟩; (try first | exact ⟨rfl, _, World.drewN_drewN _ _ _⟩ | exact ⟨rfl, _, Eq.trans (World.drewN_drewN _ _ _) (congrArg (World.drewN _) (Nat.add_assoc _ _ _))⟩))))
                                      go_ret
                                      exact ⟨by first | rfl | (simp [errW_none, errW_some] <;> rfl) | (simp [*, errW_none, errW_some] <;> rfl), by repeat (first | (with_reducible first | exact HB.out | apply below_alloc | apply pw_below_drewN | apply below_drew1) | exact HB.out)⟩
                                  · rw [if_neg c42] at H
                                    exact absurd H (by simp)
                                · rw [if_neg c41] at H
                                  exact absurd H (by simp)
                              · rw [if_neg c40] at H
                                have c40b0 : decide (x16_5 < (t383.length : Int)) = false := decide_eq_false c40
                                clear c40
                                obtain rfl := Option.some.inj H
                                go_wp2
                                repeat (go_quiet (fail); try go_wp2)
                                go_ret
                                exact ⟨by first | rfl | (simp [errW_none, errW_some] <;> rfl) | (simp [*, errW_none, errW_some] <;> rfl), by repeat (first | (with_reducible first | exact HB.out | apply below_alloc | apply pw_below_drewN | apply below_drew1) | exact HB.out)⟩

end Go.Proofs.YtidhbpfkiapcjaaDoor.P
