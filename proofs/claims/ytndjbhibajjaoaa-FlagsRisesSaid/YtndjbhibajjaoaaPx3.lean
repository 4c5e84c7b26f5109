/- Each theorem <function>.calls: a call of the Go function comes to the answer of the Lean function <function>.f. Conditions: that the Lean function has an answer; each theorem names its own. -/
import Derived.Test.YtndjbhibajjaoaaPx0
import Derived.Test.YtndjbhibajjaoaaPx2
namespace Go.Proofs.Ytndjbhibajjaoaa.P
open Go.RowKit Go.Proofs.YtndjbhibajjaoaaW.PrintWords Go.Proofs.YtndjbhibajjaoaaW.PrintLast Go.Proofs.YtndjbhibajjaoaaW.PrintMore
attribute [local go_sem] max2_int min2_int max_two min_two max_three min_three max_four min_four   -- for this text's walks alone
set_option linter.unusedVariables false
set_option linter.unusedSimpArgs false

/-! ### palioref12_Decide: function 11 -/
mutual
def palioref12_Decide.j0 : Nat → Bool → Int → Int → Bool → Bool → Bool → Bool → Bool → Bool → Option (Int × Int × Int)
  | 0, _, _, _, _, _, _, _, _, _ => none
  | k + 1, x1, x2, x3, x119000, x119001, x119002, x119003, x119004, x119005 => if x1 = true then (if x119000 = true then (palioref12_Decide.j1 k x1 x2 x3 true x119000 x119001 x119002 x119003 x119004 x119005) else (palioref12_Decide.j1 k x1 x2 x3 false x119000 x119001 x119002 x119003 x119004 x119005)) else (palioref12_Decide.j1 k x1 x2 x3 x119001 x119000 x119001 x119002 x119003 x119004 x119005)
def palioref12_Decide.j1 : Nat → Bool → Int → Int → Bool → Bool → Bool → Bool → Bool → Bool → Bool → Option (Int × Int × Int)
  | 0, _, _, _, _, _, _, _, _, _, _ => none
  | k + 1, x1, x2, x3, x30, x119000, x119001, x119002, x119003, x119004, x119005 => if x30 = true then (some (x2, 0, 0)) else (if x119005 = true then ((palioref01_Add.f x2 x3).bind fun bt120 => (if bt120.2 = 0 then (palioref12_Decide.j2 k x1 x2 bt120.1 x119000 x119001 x119002 x119003 x119004 x119005) else (some (0, 0, bt120.2)))) else (palioref12_Decide.j2 k x1 x2 x3 x119000 x119001 x119002 x119003 x119004 x119005))
def palioref12_Decide.j2 : Nat → Bool → Int → Int → Bool → Bool → Bool → Bool → Bool → Bool → Option (Int × Int × Int)
  | 0, _, _, _, _, _, _, _, _, _ => none
  | k + 1, x1, x2, x3, x119000, x119001, x119002, x119003, x119004, x119005 => if x1 = true then (if x119002 = true then (if x3 ≤ x2 then (some (x2, 0, 0)) else (if x119003 = true then (if x3 ≥ x2 then (some (x2, 0, 0)) else (if x3 = x2 then (some (x2, 0, 0)) else (some (x3, 2, 0)))) else (if x3 = x2 then (some (x2, 0, 0)) else (some (x3, 2, 0))))) else (if x119003 = true then (if x3 ≥ x2 then (some (x2, 0, 0)) else (if x3 = x2 then (some (x2, 0, 0)) else (some (x3, 2, 0)))) else (if x3 = x2 then (some (x2, 0, 0)) else (some (x3, 2, 0))))) else (some (x3, 1, 0))
end
def palioref12_Decide.f (k : Nat) (a0_0 : Bool) (a0_1 : Bool) (a0_2 : Bool) (a0_3 : Bool) (a0_4 : Bool) (a0_5 : Bool) (a1 : Bool) (a2 : Int) (a3 : Int) : Option (Int × Int × Int) := (palioref12_Right.f a0_0 a0_1 a0_2 a0_3 a0_4 a0_5).bind fun t119 => (if t119 = true then (if a1 = true then (palioref12_Decide.j0 k a1 a2 a3 a0_0 a0_1 a0_2 a0_3 a0_4 a0_5) else (palioref12_Decide.j0 k a1 0 a3 a0_0 a0_1 a0_2 a0_3 a0_4 a0_5)) else (some (0, 0, 110)))
theorem palioref12_Decide.mono_l : ∀ k, (∀ y0 y1 y2 y3 y4 y5 y6 y7 y8, LeO (palioref12_Decide.j0 k y0 y1 y2 y3 y4 y5 y6 y7 y8) (palioref12_Decide.j0 (k + 1) y0 y1 y2 y3 y4 y5 y6 y7 y8)) ∧ (∀ y0 y1 y2 y3 y4 y5 y6 y7 y8 y9, LeO (palioref12_Decide.j1 k y0 y1 y2 y3 y4 y5 y6 y7 y8 y9) (palioref12_Decide.j1 (k + 1) y0 y1 y2 y3 y4 y5 y6 y7 y8 y9)) ∧ (∀ y0 y1 y2 y3 y4 y5 y6 y7 y8, LeO (palioref12_Decide.j2 k y0 y1 y2 y3 y4 y5 y6 y7 y8) (palioref12_Decide.j2 (k + 1) y0 y1 y2 y3 y4 y5 y6 y7 y8))
  | 0 => ⟨fun _ _ _ _ _ _ _ _ _ r h => by simp [palioref12_Decide.j0] at h, fun _ _ _ _ _ _ _ _ _ _ r h => by simp [palioref12_Decide.j1] at h, fun _ _ _ _ _ _ _ _ _ r h => by simp [palioref12_Decide.j2] at h⟩
  | k + 1 => by
    obtain ⟨ih0, ih1, ih2⟩ := palioref12_Decide.mono_l k
    refine ⟨?_, ?_, ?_⟩
    · intro y0 y1 y2 y3 y4 y5 y6 y7 y8
      unfold palioref12_Decide.j0
      repeat' first
      | (with_reducible exact ih0 _ _ _ _ _ _ _ _ _)
      | (with_reducible exact ih1 _ _ _ _ _ _ _ _ _ _)
      | (with_reducible exact ih2 _ _ _ _ _ _ _ _ _)
      | (with_reducible exact LeO.refl _)
      | (with_reducible exact LeO.none _)
      | (with_reducible refine LeO.ite ?_ ?_)
      | (with_reducible refine LeO.bind ?_ (fun _ => ?_))
      | exact ih0 _ _ _ _ _ _ _ _ _
      | exact ih1 _ _ _ _ _ _ _ _ _ _
      | exact ih2 _ _ _ _ _ _ _ _ _
      | exact LeO.none _
      | refine LeO.ite ?_ ?_
      | refine LeO.bind ?_ (fun _ => ?_)
    · intro y0 y1 y2 y3 y4 y5 y6 y7 y8 y9
      unfold palioref12_Decide.j1
      repeat' first
      | (with_reducible exact ih0 _ _ _ _ _ _ _ _ _)
      | (with_reducible exact ih1 _ _ _ _ _ _ _ _ _ _)
      | (with_reducible exact ih2 _ _ _ _ _ _ _ _ _)
      | (with_reducible exact LeO.refl _)
      | (with_reducible exact LeO.none _)
      | (with_reducible refine LeO.ite ?_ ?_)
      | (with_reducible refine LeO.bind ?_ (fun _ => ?_))
      | exact ih0 _ _ _ _ _ _ _ _ _
      | exact ih1 _ _ _ _ _ _ _ _ _ _
      | exact ih2 _ _ _ _ _ _ _ _ _
      | exact LeO.none _
      | refine LeO.ite ?_ ?_
      | refine LeO.bind ?_ (fun _ => ?_)
    · intro y0 y1 y2 y3 y4 y5 y6 y7 y8
      unfold palioref12_Decide.j2
      repeat' first
      | (with_reducible exact ih0 _ _ _ _ _ _ _ _ _)
      | (with_reducible exact ih1 _ _ _ _ _ _ _ _ _ _)
      | (with_reducible exact ih2 _ _ _ _ _ _ _ _ _)
      | (with_reducible exact LeO.refl _)
      | (with_reducible exact LeO.none _)
      | (with_reducible refine LeO.ite ?_ ?_)
      | (with_reducible refine LeO.bind ?_ (fun _ => ?_))
      | exact ih0 _ _ _ _ _ _ _ _ _
      | exact ih1 _ _ _ _ _ _ _ _ _ _
      | exact ih2 _ _ _ _ _ _ _ _ _
      | exact LeO.none _
      | refine LeO.ite ?_ ?_
      | refine LeO.bind ?_ (fun _ => ?_)
theorem palioref12_Decide.mono : ∀ a0 a1 a2 a3 a4 a5 a6 a7 a8 k, LeO (palioref12_Decide.f k a0 a1 a2 a3 a4 a5 a6 a7 a8) (palioref12_Decide.f (k + 1) a0 a1 a2 a3 a4 a5 a6 a7 a8) := by
  intro a0 a1 a2 a3 a4 a5 a6 a7 a8 k
  obtain ⟨ih0, ih1, ih2⟩ := palioref12_Decide.mono_l k
  unfold palioref12_Decide.f
  repeat' first
      | (with_reducible exact ih0 _ _ _ _ _ _ _ _ _)
      | (with_reducible exact ih1 _ _ _ _ _ _ _ _ _ _)
      | (with_reducible exact ih2 _ _ _ _ _ _ _ _ _)
      | (with_reducible exact LeO.refl _)
      | (with_reducible exact LeO.none _)
      | (with_reducible refine LeO.ite ?_ ?_)
      | (with_reducible refine LeO.bind ?_ (fun _ => ?_))
      | exact ih0 _ _ _ _ _ _ _ _ _
      | exact ih1 _ _ _ _ _ _ _ _ _ _
      | exact ih2 _ _ _ _ _ _ _ _ _
      | exact LeO.none _
      | refine LeO.ite ?_ ?_
      | refine LeO.bind ?_ (fun _ => ?_)
set_option maxHeartbeats 8000000 in
set_option maxRecDepth 100000 in
theorem palioref12_Decide.calls (k : Nat) (a0_0 : Bool) (a0_1 : Bool) (a0_2 : Bool) (a0_3 : Bool) (a0_4 : Bool) (a0_5 : Bool) (a1 : Bool) (a2 : Int) (a3 : Int) (r1 : Int) (r2 : Int) (r3 : Int) (w : World) (h : palioref12_Decide.f k a0_0 a0_1 a0_2 a0_3 a0_4 a0_5 a1 a2 a3 = some (r1, r2, r3)) :
    Calls Try.prog 11 #[.agg #[.bool a0_0, .bool a0_1, .bool a0_2, .bool a0_3, .bool a0_4, .bool a0_5], .bool a1, .int .i64 a2, .int .i64 a3] w fun e w' => e = .returned (.tuple #[.int .i64 r1, .int .i64 r2, .int .i64 r3]) ∧ Below w.heap.size w w' := by
  have hu23 := Try.underlying23
  have HB := Aside0.mk (Below.refl w.heap.size w)
  have H : ((palioref12_Right.f a0_0 a0_1 a0_2 a0_3 a0_4 a0_5).bind fun t119 => (if t119 = true then (if a1 = true then (palioref12_Decide.j0 k a1 a2 a3 a0_0 a0_1 a0_2 a0_3 a0_4 a0_5) else (palioref12_Decide.j0 k a1 0 a3 a0_0 a0_1 a0_2 a0_3 a0_4 a0_5)) else (some (0, 0, 110)))) = some (r1, r2, r3) := h
  clear h
  replace H := Option.bind_eq_some_iff.mp H
  obtain ⟨t119, A50, H⟩ := H
  replace H : (if t119 = true then (if a1 = true then (palioref12_Decide.j0 k a1 a2 a3 a0_0 a0_1 a0_2 a0_3 a0_4 a0_5) else (palioref12_Decide.j0 k a1 0 a3 a0_0 a0_1 a0_2 a0_3 a0_4 a0_5)) else (some (0, 0, 110))) = some (r1, r2, r3) := H
  have A5 := Aside0.mk A50
  clear A50
  by_cases c6 : t119 = true
  · subst c6
    have H1 : (if a1 = true then (palioref12_Decide.j0 k a1 a2 a3 a0_0 a0_1 a0_2 a0_3 a0_4 a0_5) else (palioref12_Decide.j0 k a1 0 a3 a0_0 a0_1 a0_2 a0_3 a0_4 a0_5)) = some (r1, r2, r3) := by rw [if_pos rfl] at H; exact H
    clear H
    have H := H1
    clear H1
    have HC7 := Aside0.mk H
    clear H
    go_enter Try.func11, Try.ntmps11
    go_upto_if 17 with (first | ((with_reducible refine gate_dst (N := 4) rfl ?_); refine box_event ?hg (N := 4) ?hd (cs := #[.bool a0_0, .bool a0_1, .bool a0_2, .bool a0_3, .bool a0_4, .bool a0_5]) (t := 23) ?hr ?_; (case hd => rfl); (case hg => rfl); (case hr => first | (go_simp; done) | (go_simp; rfl)); intro gb118 hg w8 hbox hb; have n0_ := Aside0.mk (below_step (by repeat (first | (with_reducible first | exact HB.out | apply below_alloc | apply pw_below_drewN | apply below_drew1) | exact HB.out)) hb); have n1_ := Aside0.mk (hbox); have n2_ := Aside0.mk ((by rw [hg]; exact (below_size (by repeat (first | (with_reducible first | exact HB.out | apply below_alloc | apply pw_below_drewN | apply below_drew1) | exact HB.out))) : w.heap.size ≤ gb118)); have n3_ := Aside0.mk ((by rw [hg]; exact (below_size (by repeat (first | (with_reducible first | exact HB.out | apply below_alloc | apply pw_below_drewN | apply below_drew1) | exact HB.out))) : w.heap.size ≤ gb118)); clear HB; have HB := n0_; have BK118 := n1_; have GW118 := n2_; have GE118 := n3_; clear n0_ n1_ n2_ n3_; clear hb hbox hg; have hcz9_0 : w8.cell? ⟨gb118, 0, none⟩ = some (.bool a0_0) := (blk_cell BK118.out 0).trans rfl; have hcz9_1 : w8.cell? ⟨gb118, 1, none⟩ = some (.bool a0_1) := (blk_cell BK118.out 1).trans rfl; have hcz9_2 : w8.cell? ⟨gb118, 2, none⟩ = some (.bool a0_2) := (blk_cell BK118.out 2).trans rfl; have hcz9_3 : w8.cell? ⟨gb118, 3, none⟩ = some (.bool a0_3) := (blk_cell BK118.out 3).trans rfl; have hcz9_4 : w8.cell? ⟨gb118, 4, none⟩ = some (.bool a0_4) := (blk_cell BK118.out 4).trans rfl; have hcz9_5 : w8.cell? ⟨gb118, 5, none⟩ = some (.bool a0_5) := (blk_cell BK118.out 5).trans rfl; have hfz9_0 := blk_frozen BK118.out 0; have hfz9_1 := blk_frozen BK118.out 1; have hfz9_2 := blk_frozen BK118.out 2; have hfz9_3 := blk_frozen BK118.out 3; have hfz9_4 := blk_frozen BK118.out 4; have hfz9_5 := blk_frozen BK118.out 5) | ((with_reducible refine gate_callee (f := 13) rfl ?_); refine goesL_ (some 14) rfl rfl Try.func13 (by kernel_rfl) rfl #[.agg #[.bool a0_0, .bool a0_1, .bool a0_2, .bool a0_3, .bool a0_4, .bool a0_5]] rfl (by (try simp only [List.map_toArray, List.map_cons, List.map_nil]); first | done | rfl | (simp only [List.length_drop, List.length_take]; rfl)) ?_; (with_reducible refine (palioref12_Right.calls a0_0 a0_1 a0_2 a0_3 a0_4 a0_5 true _ A5.out).mono ?_); rintro e w10 ⟨rfl, hb⟩; refine ⟨_, rfl, ?_⟩; have n0_ := Aside0.mk (blk_below (g := gb118) (o := .cells #[.bool a0_0, .bool a0_1, .bool a0_2, .bool a0_3, .bool a0_4, .bool a0_5] 23 (0, 0)) (by (with_reducible repeat (first | refine blk_drewN ?_ _ | refine blk_drew ?_ | refine blk_alloc ?_ _)); exact BK118.out) hb); have n1_ := Aside0.mk (below_step (by repeat (first | (with_reducible first | exact HB.out | apply below_alloc | apply pw_below_drewN | apply below_drew1 | refine below_set ?_ GE118.out) | exact HB.out)) hb); clear BK118; clear HB; have BK118 := n0_; have HB := n1_; clear n0_ n1_; (try clear hb); (try clear hb2); (try clear hk); (try clear hi)))
    (try simp only [Act.put, List.setIfInBounds_toArray, List.set_cons_zero, List.set_cons_succ])
    go_cut [2] (fun v2 wc => ∃ (kq : Nat) (x2_6 : Int), v2 = .int .i64 x2_6 ∧ Aside0 (palioref12_Decide.j0 kq a1 x2_6 a3 a0_0 a0_1 a0_2 a0_3 a0_4 a0_5 = some (r1, r2, r3)) ∧ Aside0 (kq ≤ k) ∧ Aside0 (wc.heap[gb118]? = some (.cells #[.bool a0_0, .bool a0_1, .bool a0_2, .bool a0_3, .bool a0_4, .bool a0_5] 23 (0, 0))) ∧ Aside0 (Below w.heap.size w wc))
    case first =>
      have H := HC7.out
      clear HC7
      by_cases c11 : a1 = true
      · subst c11
        have H1 : (palioref12_Decide.j0 k true a2 a3 a0_0 a0_1 a0_2 a0_3 a0_4 a0_5) = some (r1, r2, r3) := by rw [if_pos rfl] at H; exact H
        clear H
        have H := H1
        clear H1
        have H' := Aside0.mk H
        clear H
        go_wp2
        go_meet
        case rel => exact ⟨_, (a2), (by first | rfl | (simp; done) | (simp [*]; done)), H', ⟨by first | omega | exact Nat.le_refl _⟩, ⟨by (with_reducible repeat (first | refine blk_drewN ?_ _ | refine blk_drew ?_ | refine blk_alloc ?_ _)); exact BK118.out⟩, ⟨by repeat (first | (with_reducible first | exact HB.out | apply below_alloc | apply pw_below_drewN | apply below_drew1 | refine below_set ?_ GE118.out) | exact HB.out)⟩⟩
      · replace c11 := Bool.eq_false_iff.mpr c11
        subst c11
        have H1 : (palioref12_Decide.j0 k false 0 a3 a0_0 a0_1 a0_2 a0_3 a0_4 a0_5) = some (r1, r2, r3) := by rw [if_neg (show ¬ (false = true) by decide)] at H; exact H
        clear H
        have H := H1
        clear H1
        have H' := Aside0.mk H
        clear H
        go_wp2
        go_meet
        case rel => exact ⟨_, (0), (by first | rfl | (simp; done) | (simp [*]; done)), H', ⟨by first | omega | exact Nat.le_refl _⟩, ⟨by (with_reducible repeat (first | refine blk_drewN ?_ _ | refine blk_drew ?_ | refine blk_alloc ?_ _)); exact BK118.out⟩, ⟨by repeat (first | (with_reducible first | exact HB.out | apply below_alloc | apply pw_below_drewN | apply below_drew1 | refine below_set ?_ GE118.out) | exact HB.out)⟩⟩
    case rest =>
      clear HC7
      try clear c1
      try clear p2
      try clear c6
      try clear c11
      try clear hcz9_0
      try clear hcz9_1
      try clear hcz9_2
      try clear hcz9_3
      try clear hcz9_4
      try clear hcz9_5
      try clear hfz9_0
      try clear hfz9_1
      try clear hfz9_2
      try clear hfz9_3
      try clear hfz9_4
      try clear hfz9_5
      obtain ⟨kq, x2_6, rfl, HA, HJ6, BK118, HB⟩ := hcut
      cases kq with
      | zero => exact absurd HA.out (by simp [palioref12_Decide.j0])
      | succ kj6 =>
        have H := HA.out
        clear HA
        simp only [palioref12_Decide.j0] at H
        have HC12 := Aside0.mk H
        clear H
        go_upto_region 5 with (fail)
        go_cut [30] (fun v30 wc => ∃ (kq : Nat) (x30_11 : Bool), v30 = .bool x30_11 ∧ Aside0 (palioref12_Decide.j1 kq a1 x2_6 a3 x30_11 a0_0 a0_1 a0_2 a0_3 a0_4 a0_5 = some (r1, r2, r3)) ∧ Aside0 (kq ≤ kj6) ∧ Aside0 (wc.heap[gb118]? = some (.cells #[.bool a0_0, .bool a0_1, .bool a0_2, .bool a0_3, .bool a0_4, .bool a0_5] 23 (0, 0))) ∧ Aside0 (Below w.heap.size w wc))
        case first =>
          have H := HC12.out
          clear HC12
          by_cases c13 : a1 = true
          · subst c13
            have H1 : (if a0_0 = true then (palioref12_Decide.j1 kj6 true x2_6 a3 true a0_0 a0_1 a0_2 a0_3 a0_4 a0_5) else (palioref12_Decide.j1 kj6 true x2_6 a3 false a0_0 a0_1 a0_2 a0_3 a0_4 a0_5)) = some (r1, r2, r3) := by rw [if_pos rfl] at H; exact H
            clear H
            have H := H1
            clear H1
            by_cases c14 : a0_0 = true
            · subst c14
              have H1 : (palioref12_Decide.j1 kj6 true x2_6 a3 true true a0_1 a0_2 a0_3 a0_4 a0_5) = some (r1, r2, r3) := by rw [if_pos rfl] at H; exact H
              clear H
              have H := H1
              clear H1
              have H' := Aside0.mk H
              clear H
              have hcz15_0 : wc.cell? ⟨gb118, 0, none⟩ = some (.bool true) := (blk_cell BK118.out 0).trans rfl
              have hcz15_1 : wc.cell? ⟨gb118, 1, none⟩ = some (.bool a0_1) := (blk_cell BK118.out 1).trans rfl
              have hcz15_2 : wc.cell? ⟨gb118, 2, none⟩ = some (.bool a0_2) := (blk_cell BK118.out 2).trans rfl
              have hcz15_3 : wc.cell? ⟨gb118, 3, none⟩ = some (.bool a0_3) := (blk_cell BK118.out 3).trans rfl
              have hcz15_4 : wc.cell? ⟨gb118, 4, none⟩ = some (.bool a0_4) := (blk_cell BK118.out 4).trans rfl
              have hcz15_5 : wc.cell? ⟨gb118, 5, none⟩ = some (.bool a0_5) := (blk_cell BK118.out 5).trans rfl
              have hfz15_0 := blk_frozen BK118.out 0
              have hfz15_1 := blk_frozen BK118.out 1
              have hfz15_2 := blk_frozen BK118.out 2
              have hfz15_3 := blk_frozen BK118.out 3
              have hfz15_4 := blk_frozen BK118.out 4
              have hfz15_5 := blk_frozen BK118.out 5
              go_wp2
              go_meet
              case rel => exact ⟨_, (true), (by first | rfl | (simp; done) | (simp [*]; done)), H', ⟨by have := HJ6.out; first | omega | exact Nat.le_refl _⟩, ⟨by (with_reducible repeat (first | refine blk_drewN ?_ _ | refine blk_drew ?_ | refine blk_alloc ?_ _)); exact BK118.out⟩, ⟨by repeat (first | (with_reducible first | exact HB.out | apply below_alloc | apply pw_below_drewN | apply below_drew1 | refine below_set ?_ GE118.out) | exact HB.out)⟩⟩
            · replace c14 := Bool.eq_false_iff.mpr c14
              subst c14
              have H1 : (palioref12_Decide.j1 kj6 true x2_6 a3 false false a0_1 a0_2 a0_3 a0_4 a0_5) = some (r1, r2, r3) := by rw [if_neg (show ¬ (false = true) by decide)] at H; exact H
              clear H
              have H := H1
              clear H1
              have H' := Aside0.mk H
              clear H
              have hcz16_0 : wc.cell? ⟨gb118, 0, none⟩ = some (.bool false) := (blk_cell BK118.out 0).trans rfl
              have hcz16_1 : wc.cell? ⟨gb118, 1, none⟩ = some (.bool a0_1) := (blk_cell BK118.out 1).trans rfl
              have hcz16_2 : wc.cell? ⟨gb118, 2, none⟩ = some (.bool a0_2) := (blk_cell BK118.out 2).trans rfl
              have hcz16_3 : wc.cell? ⟨gb118, 3, none⟩ = some (.bool a0_3) := (blk_cell BK118.out 3).trans rfl
              have hcz16_4 : wc.cell? ⟨gb118, 4, none⟩ = some (.bool a0_4) := (blk_cell BK118.out 4).trans rfl
              have hcz16_5 : wc.cell? ⟨gb118, 5, none⟩ = some (.bool a0_5) := (blk_cell BK118.out 5).trans rfl
              have hfz16_0 := blk_frozen BK118.out 0
              have hfz16_1 := blk_frozen BK118.out 1
              have hfz16_2 := blk_frozen BK118.out 2
              have hfz16_3 := blk_frozen BK118.out 3
              have hfz16_4 := blk_frozen BK118.out 4
              have hfz16_5 := blk_frozen BK118.out 5
              go_wp2
              go_meet
              case rel => exact ⟨_, (false), (by first | rfl | (simp; done) | (simp [*]; done)), H', ⟨by have := HJ6.out; first | omega | exact Nat.le_refl _⟩, ⟨by (with_reducible repeat (first | refine blk_drewN ?_ _ | refine blk_drew ?_ | refine blk_alloc ?_ _)); exact BK118.out⟩, ⟨by repeat (first | (with_reducible first | exact HB.out | apply below_alloc | apply pw_below_drewN | apply below_drew1 | refine below_set ?_ GE118.out) | exact HB.out)⟩⟩
          · replace c13 := Bool.eq_false_iff.mpr c13
            subst c13
            have H1 : (palioref12_Decide.j1 kj6 false x2_6 a3 a0_1 a0_0 a0_1 a0_2 a0_3 a0_4 a0_5) = some (r1, r2, r3) := by rw [if_neg (show ¬ (false = true) by decide)] at H; exact H
            clear H
            have H := H1
            clear H1
            have H' := Aside0.mk H
            clear H
            have hcz17_0 : wc.cell? ⟨gb118, 0, none⟩ = some (.bool a0_0) := (blk_cell BK118.out 0).trans rfl
            have hcz17_1 : wc.cell? ⟨gb118, 1, none⟩ = some (.bool a0_1) := (blk_cell BK118.out 1).trans rfl
            have hcz17_2 : wc.cell? ⟨gb118, 2, none⟩ = some (.bool a0_2) := (blk_cell BK118.out 2).trans rfl
            have hcz17_3 : wc.cell? ⟨gb118, 3, none⟩ = some (.bool a0_3) := (blk_cell BK118.out 3).trans rfl
            have hcz17_4 : wc.cell? ⟨gb118, 4, none⟩ = some (.bool a0_4) := (blk_cell BK118.out 4).trans rfl
            have hcz17_5 : wc.cell? ⟨gb118, 5, none⟩ = some (.bool a0_5) := (blk_cell BK118.out 5).trans rfl
            have hfz17_0 := blk_frozen BK118.out 0
            have hfz17_1 := blk_frozen BK118.out 1
            have hfz17_2 := blk_frozen BK118.out 2
            have hfz17_3 := blk_frozen BK118.out 3
            have hfz17_4 := blk_frozen BK118.out 4
            have hfz17_5 := blk_frozen BK118.out 5
            go_wp2
            go_meet
            case rel => exact ⟨_, (a0_1), (by first | rfl | (simp; done) | (simp [*]; done)), H', ⟨by have := HJ6.out; first | omega | exact Nat.le_refl _⟩, ⟨by (with_reducible repeat (first | refine blk_drewN ?_ _ | refine blk_drew ?_ | refine blk_alloc ?_ _)); exact BK118.out⟩, ⟨by repeat (first | (with_reducible first | exact HB.out | apply below_alloc | apply pw_below_drewN | apply below_drew1 | refine below_set ?_ GE118.out) | exact HB.out)⟩⟩
        case rest =>
          clear HC12
          try clear c1
          try clear p2
          try clear c6
          try clear c11
          try clear c13
          try clear c14
          try clear hcz15_0
          try clear hcz15_1
          try clear hcz15_2
          try clear hcz15_3
          try clear hcz15_4
          try clear hcz15_5
          try clear hcz16_0
          try clear hcz16_1
          try clear hcz16_2
          try clear hcz16_3
          try clear hcz16_4
          try clear hcz16_5
          try clear hcz17_0
          try clear hcz17_1
          try clear hcz17_2
          try clear hcz17_3
          try clear hcz17_4
          try clear hcz17_5
          try clear hcz9_0
          try clear hcz9_1
          try clear hcz9_2
          try clear hcz9_3
          try clear hcz9_4
          try clear hcz9_5
          try clear hfz15_0
          try clear hfz15_1
          try clear hfz15_2
          try clear hfz15_3
          try clear hfz15_4
          try clear hfz15_5
          try clear hfz16_0
          try clear hfz16_1
          try clear hfz16_2
          try clear hfz16_3
          try clear hfz16_4
          try clear hfz16_5
          try clear hfz17_0
          try clear hfz17_1
          try clear hfz17_2
          try clear hfz17_3
          try clear hfz17_4
          try clear hfz17_5
          try clear hfz9_0
          try clear hfz9_1
          try clear hfz9_2
          try clear hfz9_3
          try clear hfz9_4
          try clear hfz9_5
          try clear p2
          obtain ⟨kq, x30_11, rfl, HA, HJ11, BK118, HB⟩ := hcut
          cases kq with
          | zero => exact absurd HA.out (by simp [palioref12_Decide.j1])
          | succ kj11 =>
            have H := HA.out
            clear HA
            simp only [palioref12_Decide.j1] at H
            by_cases c18 : x30_11 = true
            · subst c18
              have H1 : (some (x2_6, 0, 0)) = some (r1, r2, r3) := by rw [if_pos rfl] at H; exact H
              clear H
              have H := H1
              clear H1
              simp only [Option.some.injEq, Prod.mk.injEq] at H
              obtain ⟨rfl, rfl, rfl⟩ := H
              go_wp2
              go_ret3
              exact ⟨by first | rfl | (simp [errW_none, errW_some] <;> rfl) | (simp [*, errW_none, errW_some] <;> rfl), by repeat (first | (with_reducible first | exact HB.out | apply below_alloc | apply pw_below_drewN | apply below_drew1 | refine below_set ?_ GE118.out) | exact HB.out)⟩
            · replace c18 := Bool.eq_false_iff.mpr c18
              subst c18
              have H1 : (if a0_5 = true then ((palioref01_Add.f x2_6 a3).bind fun bt120 => (if bt120.2 = 0 then (palioref12_Decide.j2 kj11 a1 x2_6 bt120.1 a0_0 a0_1 a0_2 a0_3 a0_4 a0_5) else (some (0, 0, bt120.2)))) else (palioref12_Decide.j2 kj11 a1 x2_6 a3 a0_0 a0_1 a0_2 a0_3 a0_4 a0_5)) = some (r1, r2, r3) := by rw [if_neg (show ¬ (false = true) by decide)] at H; exact H
              clear H
              have H := H1
              clear H1
              have HC19 := Aside0.mk H
              clear H
              have hcz20_0 : wc.cell? ⟨gb118, 0, none⟩ = some (.bool a0_0) := (blk_cell BK118.out 0).trans rfl
              have hcz20_1 : wc.cell? ⟨gb118, 1, none⟩ = some (.bool a0_1) := (blk_cell BK118.out 1).trans rfl
              have hcz20_2 : wc.cell? ⟨gb118, 2, none⟩ = some (.bool a0_2) := (blk_cell BK118.out 2).trans rfl
              have hcz20_3 : wc.cell? ⟨gb118, 3, none⟩ = some (.bool a0_3) := (blk_cell BK118.out 3).trans rfl
              have hcz20_4 : wc.cell? ⟨gb118, 4, none⟩ = some (.bool a0_4) := (blk_cell BK118.out 4).trans rfl
              have hcz20_5 : wc.cell? ⟨gb118, 5, none⟩ = some (.bool a0_5) := (blk_cell BK118.out 5).trans rfl
              have hfz20_0 := blk_frozen BK118.out 0
              have hfz20_1 := blk_frozen BK118.out 1
              have hfz20_2 := blk_frozen BK118.out 2
              have hfz20_3 := blk_frozen BK118.out 3
              have hfz20_4 := blk_frozen BK118.out 4
              have hfz20_5 := blk_frozen BK118.out 5
              go_upto_if 33 with (fail)
              go_cut [3] (fun v3 wc => ∃ (kq : Nat) (x3_18 : Int), v3 = .int .i64 x3_18 ∧ Aside0 (palioref12_Decide.j2 kq a1 x2_6 x3_18 a0_0 a0_1 a0_2 a0_3 a0_4 a0_5 = some (r1, r2, r3)) ∧ Aside0 (kq ≤ kj11) ∧ Aside0 (wc.heap[gb118]? = some (.cells #[.bool a0_0, .bool a0_1, .bool a0_2, .bool a0_3, .bool a0_4, .bool a0_5] 23 (0, 0))) ∧ Aside0 (Below w.heap.size w wc))
              case first =>
                have H := HC19.out
                clear HC19
                by_cases c21 : a0_5 = true
                · subst c21
                  have H1 : ((palioref01_Add.f x2_6 a3).bind fun bt120 => (if bt120.2 = 0 then (palioref12_Decide.j2 kj11 a1 x2_6 bt120.1 a0_0 a0_1 a0_2 a0_3 a0_4 true) else (some (0, 0, bt120.2)))) = some (r1, r2, r3) := by rw [if_pos rfl] at H; exact H
                  clear H
                  have H := H1
                  clear H1
                  replace H := Option.bind_eq_some_iff.mp H
                  obtain ⟨⟨t120, t121⟩, A220, H⟩ := H
                  replace H : (if t121 = 0 then (palioref12_Decide.j2 kj11 a1 x2_6 t120 a0_0 a0_1 a0_2 a0_3 a0_4 true) else (some (0, 0, t121))) = some (r1, r2, r3) := H
                  have A22 := Aside0.mk A220
                  clear A220
                  by_cases c23 : t121 = 0
                  · rw [if_pos c23] at H
                    have c23b0 : (t121 == 0) = true := beq_iff_eq.mpr c23
                    have c23b1 : (t121 != 0) = false := bne_eq_false_iff_eq.mpr c23
                    clear c23
                    (first | rw [c23b0] | (simp only [i64_w, i32_w]; rw [c23b0]) | skip)
                    have H' := Aside0.mk H
                    clear H
                    go_wp2_with (first | ((with_reducible refine gate_callee (f := 21) rfl ?_); refine goesL_ (some 37) rfl rfl Try.func21 (by kernel_rfl) rfl #[.int .i64 x2_6, .int .i64 a3] rfl (by (try simp only [List.map_toArray, List.map_cons, List.map_nil]); first | done | rfl | (simp only [List.length_drop, List.length_take]; rfl)) ?_; (with_reducible refine (palioref01_Add.calls x2_6 a3 t120 t121 _ A22.out).mono ?_); rintro e w' ⟨rfl, ⟨nd, rfl⟩⟩; refine ⟨_, rfl, ?_⟩))
                    go_meet
                    case rel => exact ⟨_, (t120), (by first | rfl | (simp; done) | (simp [*]; done)), H', ⟨by have := HJ6.out; have := HJ11.out; first | omega | exact Nat.le_refl _⟩, ⟨by (with_reducible repeat (first | refine blk_drewN ?_ _ | refine blk_drew ?_ | refine blk_alloc ?_ _)); exact BK118.out⟩, ⟨by repeat (first | (with_reducible first | exact HB.out | apply below_alloc | apply pw_below_drewN | apply below_drew1 | refine below_set ?_ GE118.out) | exact HB.out)⟩⟩
                  · rw [if_neg c23] at H
                    have c23b0 : (t121 == 0) = false := beq_eq_false_iff_ne.mpr c23
                    have c23b1 : (t121 != 0) = true := bne_iff_ne.mpr c23
                    (first | rw [c23b0] | (simp only [i64_w, i32_w]; rw [c23b0]) | skip)
                    simp only [Option.some.injEq, Prod.mk.injEq] at H
                    obtain ⟨rfl, rfl, rfl⟩ := H
                    go_wp2_with (first | ((with_reducible refine gate_callee (f := 21) rfl ?_); refine goesL_ (some 37) rfl rfl Try.func21 (by kernel_rfl) rfl #[.int .i64 x2_6, .int .i64 a3] rfl (by (try simp only [List.map_toArray, List.map_cons, List.map_nil]); first | done | rfl | (simp only [List.length_drop, List.length_take]; rfl)) ?_; (with_reducible refine (palioref01_Add.calls x2_6 a3 t120 t121 _ A22.out).mono ?_); rintro e w' ⟨rfl, ⟨nd, rfl⟩⟩; refine ⟨_, rfl, ?_⟩))
                    go_ret3
                    exact ⟨by first | rfl | (simp [errW_none, errW_some] <;> rfl) | (simp [*, errW_none, errW_some] <;> rfl), by repeat (first | (with_reducible first | exact HB.out | apply below_alloc | apply pw_below_drewN | apply below_drew1 | refine below_set ?_ GE118.out) | exact HB.out)⟩
                · replace c21 := Bool.eq_false_iff.mpr c21
                  subst c21
                  have H1 : (palioref12_Decide.j2 kj11 a1 x2_6 a3 a0_0 a0_1 a0_2 a0_3 a0_4 false) = some (r1, r2, r3) := by rw [if_neg (show ¬ (false = true) by decide)] at H; exact H
                  clear H
                  have H := H1
                  clear H1
                  have H' := Aside0.mk H
                  clear H
                  go_wp2
                  go_meet
                  case rel => exact ⟨_, (a3), (by first | rfl | (simp; done) | (simp [*]; done)), H', ⟨by have := HJ6.out; have := HJ11.out; first | omega | exact Nat.le_refl _⟩, ⟨by (with_reducible repeat (first | refine blk_drewN ?_ _ | refine blk_drew ?_ | refine blk_alloc ?_ _)); exact BK118.out⟩, ⟨by repeat (first | (with_reducible first | exact HB.out | apply below_alloc | apply pw_below_drewN | apply below_drew1 | refine below_set ?_ GE118.out) | exact HB.out)⟩⟩
              case rest =>
                clear HC19
                try clear c1
                try clear c2
                try clear p2
                try clear c6
                try clear c11
                try clear c13
                try clear c14
                try clear c18
                try clear c21
                try clear c23
                try clear c23b0
                try clear c23b1
                try clear hcz15_0
                try clear hcz15_1
                try clear hcz15_2
                try clear hcz15_3
                try clear hcz15_4
                try clear hcz15_5
                try clear hcz16_0
                try clear hcz16_1
                try clear hcz16_2
                try clear hcz16_3
                try clear hcz16_4
                try clear hcz16_5
                try clear hcz17_0
                try clear hcz17_1
                try clear hcz17_2
                try clear hcz17_3
                try clear hcz17_4
                try clear hcz17_5
                try clear hcz20_0
                try clear hcz20_1
                try clear hcz20_2
                try clear hcz20_3
                try clear hcz20_4
                try clear hcz20_5
                try clear hcz9_0
                try clear hcz9_1
                try clear hcz9_2
                try clear hcz9_3
                try clear hcz9_4
                try clear hcz9_5
                try clear hfz15_0
                try clear hfz15_1
                try clear hfz15_2
                try clear hfz15_3
                try clear hfz15_4
                try clear hfz15_5
                try clear hfz16_0
                try clear hfz16_1
                try clear hfz16_2
                try clear hfz16_3
                try clear hfz16_4
                try clear hfz16_5
                try clear hfz17_0
                try clear hfz17_1
                try clear hfz17_2
                try clear hfz17_3
                try clear hfz17_4
                try clear hfz17_5
                try clear hfz20_0
                try clear hfz20_1
                try clear hfz20_2
                try clear hfz20_3
                try clear hfz20_4
                try clear hfz20_5
                try clear hfz9_0
                try clear hfz9_1
                try clear hfz9_2
                try clear hfz9_3
                try clear hfz9_4
                try clear hfz9_5
                try clear p2
                obtain ⟨kq, x3_18, rfl, HA, HJ18, BK118, HB⟩ := hcut
                cases kq with
                | zero => exact absurd HA.out (by simp [palioref12_Decide.j2])
                | succ kj18 =>
                  have H := HA.out
                  clear HA
                  simp only [palioref12_Decide.j2] at H
                  by_cases c24 : a1 = true
                  · subst c24
                    have H1 : (if a0_2 = true then (if x3_18 ≤ x2_6 then (some (x2_6, 0, 0)) else (if a0_3 = true then (if x3_18 ≥ x2_6 then (some (x2_6, 0, 0)) else (if x3_18 = x2_6 then (some (x2_6, 0, 0)) else (some (x3_18, 2, 0)))) else (if x3_18 = x2_6 then (some (x2_6, 0, 0)) else (some (x3_18, 2, 0))))) else (if a0_3 = true then (if x3_18 ≥ x2_6 then (some (x2_6, 0, 0)) else (if x3_18 = x2_6 then (some (x2_6, 0, 0)) else (some (x3_18, 2, 0)))) else (if x3_18 = x2_6 then (some (x2_6, 0, 0)) else (some (x3_18, 2, 0))))) = some (r1, r2, r3) := by rw [if_pos rfl] at H; exact H
                    clear H
                    have H := H1
                    clear H1
                    by_cases c25 : a0_2 = true
                    · subst c25
                      have H1 : (if x3_18 ≤ x2_6 then (some (x2_6, 0, 0)) else (if a0_3 = true then (if x3_18 ≥ x2_6 then (some (x2_6, 0, 0)) else (if x3_18 = x2_6 then (some (x2_6, 0, 0)) else (some (x3_18, 2, 0)))) else (if x3_18 = x2_6 then (some (x2_6, 0, 0)) else (some (x3_18, 2, 0))))) = some (r1, r2, r3) := by rw [if_pos rfl] at H; exact H
                      clear H
                      have H := H1
                      clear H1
                      by_cases c26 : x3_18 ≤ x2_6
                      · rw [if_pos c26] at H
                        have c26b0 : decide (x3_18 ≤ x2_6) = true := decide_eq_true c26
                        clear c26
                        simp only [Option.some.injEq, Prod.mk.injEq] at H
                        obtain ⟨rfl, rfl, rfl⟩ := H
                        have hcz27_0 : wc.cell? ⟨gb118, 0, none⟩ = some (.bool a0_0) := (blk_cell BK118.out 0).trans rfl
                        have hcz27_1 : wc.cell? ⟨gb118, 1, none⟩ = some (.bool a0_1) := (blk_cell BK118.out 1).trans rfl
                        have hcz27_2 : wc.cell? ⟨gb118, 2, none⟩ = some (.bool true) := (blk_cell BK118.out 2).trans rfl
                        have hcz27_3 : wc.cell? ⟨gb118, 3, none⟩ = some (.bool a0_3) := (blk_cell BK118.out 3).trans rfl
                        have hcz27_4 : wc.cell? ⟨gb118, 4, none⟩ = some (.bool a0_4) := (blk_cell BK118.out 4).trans rfl
                        have hcz27_5 : wc.cell? ⟨gb118, 5, none⟩ = some (.bool a0_5) := (blk_cell BK118.out 5).trans rfl
                        have hfz27_0 := blk_frozen BK118.out 0
                        have hfz27_1 := blk_frozen BK118.out 1
                        have hfz27_2 := blk_frozen BK118.out 2
                        have hfz27_3 := blk_frozen BK118.out 3
                        have hfz27_4 := blk_frozen BK118.out 4
                        have hfz27_5 := blk_frozen BK118.out 5
                        go_wp2
                        go_ret3
                        exact ⟨by first | rfl | (simp [errW_none, errW_some] <;> rfl) | (simp [*, errW_none, errW_some] <;> rfl), by repeat (first | (with_reducible first | exact HB.out | apply below_alloc | apply pw_below_drewN | apply below_drew1 | refine below_set ?_ GE118.out) | exact HB.out)⟩
                      · rw [if_neg c26] at H
                        have c26b0 : decide (x3_18 ≤ x2_6) = false := decide_eq_false c26
                        clear c26
                        by_cases c28 : a0_3 = true
                        · subst c28
                          have H1 : (if x3_18 ≥ x2_6 then (some (x2_6, 0, 0)) else (if x3_18 = x2_6 then (some (x2_6, 0, 0)) else (some (x3_18, 2, 0)))) = some (r1, r2, r3) := by rw [if_pos rfl] at H; exact H
                          clear H
                          have H := H1
                          clear H1
                          by_cases c29 : x3_18 ≥ x2_6
                          · rw [if_pos c29] at H
                            have c29b0 : decide (x2_6 ≤ x3_18) = true := decide_eq_true c29
                            clear c29
                            simp only [Option.some.injEq, Prod.mk.injEq] at H
                            obtain ⟨rfl, rfl, rfl⟩ := H
                            have hcz30_0 : wc.cell? ⟨gb118, 0, none⟩ = some (.bool a0_0) := (blk_cell BK118.out 0).trans rfl
                            have hcz30_1 : wc.cell? ⟨gb118, 1, none⟩ = some (.bool a0_1) := (blk_cell BK118.out 1).trans rfl
                            have hcz30_2 : wc.cell? ⟨gb118, 2, none⟩ = some (.bool true) := (blk_cell BK118.out 2).trans rfl
                            have hcz30_3 : wc.cell? ⟨gb118, 3, none⟩ = some (.bool true) := (blk_cell BK118.out 3).trans rfl
                            have hcz30_4 : wc.cell? ⟨gb118, 4, none⟩ = some (.bool a0_4) := (blk_cell BK118.out 4).trans rfl
                            have hcz30_5 : wc.cell? ⟨gb118, 5, none⟩ = some (.bool a0_5) := (blk_cell BK118.out 5).trans rfl
                            have hfz30_0 := blk_frozen BK118.out 0
                            have hfz30_1 := blk_frozen BK118.out 1
                            have hfz30_2 := blk_frozen BK118.out 2
                            have hfz30_3 := blk_frozen BK118.out 3
                            have hfz30_4 := blk_frozen BK118.out 4
                            have hfz30_5 := blk_frozen BK118.out 5
                            go_wp2
                            go_ret3
                            exact ⟨by first | rfl | (simp [errW_none, errW_some] <;> rfl) | (simp [*, errW_none, errW_some] <;> rfl), by repeat (first | (with_reducible first | exact HB.out | apply below_alloc | apply pw_below_drewN | apply below_drew1 | refine below_set ?_ GE118.out) | exact HB.out)⟩
                          · rw [if_neg c29] at H
                            have c29b0 : decide (x2_6 ≤ x3_18) = false := decide_eq_false c29
                            clear c29
                            by_cases c31 : x3_18 = x2_6
                            · rw [if_pos c31] at H
                              have c31b0 : (x3_18 == x2_6) = true := beq_iff_eq.mpr c31
                              have c31b1 : (x3_18 != x2_6) = false := bne_eq_false_iff_eq.mpr c31
                              clear c31
                              simp only [Option.some.injEq, Prod.mk.injEq] at H
                              obtain ⟨rfl, rfl, rfl⟩ := H
                              have hcz32_0 : wc.cell? ⟨gb118, 0, none⟩ = some (.bool a0_0) := (blk_cell BK118.out 0).trans rfl
                              have hcz32_1 : wc.cell? ⟨gb118, 1, none⟩ = some (.bool a0_1) := (blk_cell BK118.out 1).trans rfl
                              have hcz32_2 : wc.cell? ⟨gb118, 2, none⟩ = some (.bool true) := (blk_cell BK118.out 2).trans rfl
                              have hcz32_3 : wc.cell? ⟨gb118, 3, none⟩ = some (.bool true) := (blk_cell BK118.out 3).trans rfl
                              have hcz32_4 : wc.cell? ⟨gb118, 4, none⟩ = some (.bool a0_4) := (blk_cell BK118.out 4).trans rfl
                              have hcz32_5 : wc.cell? ⟨gb118, 5, none⟩ = some (.bool a0_5) := (blk_cell BK118.out 5).trans rfl
                              have hfz32_0 := blk_frozen BK118.out 0
                              have hfz32_1 := blk_frozen BK118.out 1
                              have hfz32_2 := blk_frozen BK118.out 2
                              have hfz32_3 := blk_frozen BK118.out 3
                              have hfz32_4 := blk_frozen BK118.out 4
                              have hfz32_5 := blk_frozen BK118.out 5
                              go_wp2
                              go_ret3
                              exact ⟨by first | rfl | (simp [errW_none, errW_some] <;> rfl) | (simp [*, errW_none, errW_some] <;> rfl), by repeat (first | (with_reducible first | exact HB.out | apply below_alloc | apply pw_below_drewN | apply below_drew1 | refine below_set ?_ GE118.out) | exact HB.out)⟩
                            · rw [if_neg c31] at H
                              have c31b0 : (x3_18 == x2_6) = false := beq_eq_false_iff_ne.mpr c31
                              have c31b1 : (x3_18 != x2_6) = true := bne_iff_ne.mpr c31
                              simp only [Option.some.injEq, Prod.mk.injEq] at H
                              obtain ⟨rfl, rfl, rfl⟩ := H
                              have hcz33_0 : wc.cell? ⟨gb118, 0, none⟩ = some (.bool a0_0) := (blk_cell BK118.out 0).trans rfl
                              have hcz33_1 : wc.cell? ⟨gb118, 1, none⟩ = some (.bool a0_1) := (blk_cell BK118.out 1).trans rfl
                              have hcz33_2 : wc.cell? ⟨gb118, 2, none⟩ = some (.bool true) := (blk_cell BK118.out 2).trans rfl
                              have hcz33_3 : wc.cell? ⟨gb118, 3, none⟩ = some (.bool true) := (blk_cell BK118.out 3).trans rfl
                              have hcz33_4 : wc.cell? ⟨gb118, 4, none⟩ = some (.bool a0_4) := (blk_cell BK118.out 4).trans rfl
                              have hcz33_5 : wc.cell? ⟨gb118, 5, none⟩ = some (.bool a0_5) := (blk_cell BK118.out 5).trans rfl
                              have hfz33_0 := blk_frozen BK118.out 0
                              have hfz33_1 := blk_frozen BK118.out 1
                              have hfz33_2 := blk_frozen BK118.out 2
                              have hfz33_3 := blk_frozen BK118.out 3
                              have hfz33_4 := blk_frozen BK118.out 4
                              have hfz33_5 := blk_frozen BK118.out 5
                              go_wp2
                              go_ret3
                              exact ⟨by first | rfl | (simp [errW_none, errW_some] <;> rfl) | (simp [*, errW_none, errW_some] <;> rfl), by repeat (first | (with_reducible first | exact HB.out | apply below_alloc | apply pw_below_drewN | apply below_drew1 | refine below_set ?_ GE118.out) | exact HB.out)⟩
                        · replace c28 := Bool.eq_false_iff.mpr c28
                          subst c28
                          have H1 : (if x3_18 = x2_6 then (some (x2_6, 0, 0)) else (some (x3_18, 2, 0))) = some (r1, r2, r3) := by rw [if_neg (show ¬ (false = true) by decide)] at H; exact H
                          clear H
                          have H := H1
                          clear H1
                          by_cases c34 : x3_18 = x2_6
                          · rw [if_pos c34] at H
                            have c34b0 : (x3_18 == x2_6) = true := beq_iff_eq.mpr c34
                            have c34b1 : (x3_18 != x2_6) = false := bne_eq_false_iff_eq.mpr c34
                            clear c34
                            simp only [Option.some.injEq, Prod.mk.injEq] at H
                            obtain ⟨rfl, rfl, rfl⟩ := H
                            have hcz35_0 : wc.cell? ⟨gb118, 0, none⟩ = some (.bool a0_0) := (blk_cell BK118.out 0).trans rfl
                            have hcz35_1 : wc.cell? ⟨gb118, 1, none⟩ = some (.bool a0_1) := (blk_cell BK118.out 1).trans rfl
                            have hcz35_2 : wc.cell? ⟨gb118, 2, none⟩ = some (.bool true) := (blk_cell BK118.out 2).trans rfl
                            have hcz35_3 : wc.cell? ⟨gb118, 3, none⟩ = some (.bool false) := (blk_cell BK118.out 3).trans rfl
                            have hcz35_4 : wc.cell? ⟨gb118, 4, none⟩ = some (.bool a0_4) := (blk_cell BK118.out 4).trans rfl
                            have hcz35_5 : wc.cell? ⟨gb118, 5, none⟩ = some (.bool a0_5) := (blk_cell BK118.out 5).trans rfl
                            have hfz35_0 := blk_frozen BK118.out 0
                            have hfz35_1 := blk_frozen BK118.out 1
                            have hfz35_2 := blk_frozen BK118.out 2
                            have hfz35_3 := blk_frozen BK118.out 3
                            have hfz35_4 := blk_frozen BK118.out 4
                            have hfz35_5 := blk_frozen BK118.out 5
                            go_wp2
                            go_ret3
                            exact ⟨by first | rfl | (simp [errW_none, errW_some] <;> rfl) | (simp [*, errW_none, errW_some] <;> rfl), by repeat (first | (with_reducible first | exact HB.out | apply below_alloc | apply pw_below_drewN | apply below_drew1 | refine below_set ?_ GE118.out) | exact HB.out)⟩
                          · rw [if_neg c34] at H
                            have c34b0 : (x3_18 == x2_6) = false := beq_eq_false_iff_ne.mpr c34
                            have c34b1 : (x3_18 != x2_6) = true := bne_iff_ne.mpr c34
                            simp only [Option.some.injEq, Prod.mk.injEq] at H
                            obtain ⟨rfl, rfl, rfl⟩ := H
                            have hcz36_0 : wc.cell? ⟨gb118, 0, none⟩ = some (.bool a0_0) := (blk_cell BK118.out 0).trans rfl
                            have hcz36_1 : wc.cell? ⟨gb118, 1, none⟩ = some (.bool a0_1) := (blk_cell BK118.out 1).trans rfl
                            have hcz36_2 : wc.cell? ⟨gb118, 2, none⟩ = some (.bool true) := (blk_cell BK118.out 2).trans rfl
                            have hcz36_3 : wc.cell? ⟨gb118, 3, none⟩ = some (.bool false) := (blk_cell BK118.out 3).trans rfl
                            have hcz36_4 : wc.cell? ⟨gb118, 4, none⟩ = some (.bool a0_4) := (blk_cell BK118.out 4).trans rfl
                            have hcz36_5 : wc.cell? ⟨gb118, 5, none⟩ = some (.bool a0_5) := (blk_cell BK118.out 5).trans rfl
                            have hfz36_0 := blk_frozen BK118.out 0
                            have hfz36_1 := blk_frozen BK118.out 1
                            have hfz36_2 := blk_frozen BK118.out 2
                            have hfz36_3 := blk_frozen BK118.out 3
                            have hfz36_4 := blk_frozen BK118.out 4
                            have hfz36_5 := blk_frozen BK118.out 5
                            go_wp2
                            go_ret3
                            exact ⟨by first | rfl | (simp [errW_none, errW_some] <;> rfl) | (simp [*, errW_none, errW_some] <;> rfl), by repeat (first | (with_reducible first | exact HB.out | apply below_alloc | apply pw_below_drewN | apply below_drew1 | refine below_set ?_ GE118.out) | exact HB.out)⟩
                    · replace c25 := Bool.eq_false_iff.mpr c25
                      subst c25
                      have H1 : (if a0_3 = true then (if x3_18 ≥ x2_6 then (some (x2_6, 0, 0)) else (if x3_18 = x2_6 then (some (x2_6, 0, 0)) else (some (x3_18, 2, 0)))) else (if x3_18 = x2_6 then (some (x2_6, 0, 0)) else (some (x3_18, 2, 0)))) = some (r1, r2, r3) := by rw [if_neg (show ¬ (false = true) by decide)] at H; exact H
                      clear H
                      have H := H1
                      clear H1
                      by_cases c37 : a0_3 = true
                      · subst c37
                        have H1 : (if x3_18 ≥ x2_6 then (some (x2_6, 0, 0)) else (if x3_18 = x2_6 then (some (x2_6, 0, 0)) else (some (x3_18, 2, 0)))) = some (r1, r2, r3) := by rw [if_pos rfl] at H; exact H
                        clear H
                        have H := H1
                        clear H1
                        by_cases c38 : x3_18 ≥ x2_6
                        · rw [if_pos c38] at H
                          have c38b0 : decide (x2_6 ≤ x3_18) = true := decide_eq_true c38
                          clear c38
                          simp only [Option.some.injEq, Prod.mk.injEq] at H
                          obtain ⟨rfl, rfl, rfl⟩ := H
                          have hcz39_0 : wc.cell? ⟨gb118, 0, none⟩ = some (.bool a0_0) := (blk_cell BK118.out 0).trans rfl
                          have hcz39_1 : wc.cell? ⟨gb118, 1, none⟩ = some (.bool a0_1) := (blk_cell BK118.out 1).trans rfl
                          have hcz39_2 : wc.cell? ⟨gb118, 2, none⟩ = some (.bool false) := (blk_cell BK118.out 2).trans rfl
                          have hcz39_3 : wc.cell? ⟨gb118, 3, none⟩ = some (.bool true) := (blk_cell BK118.out 3).trans rfl
                          have hcz39_4 : wc.cell? ⟨gb118, 4, none⟩ = some (.bool a0_4) := (blk_cell BK118.out 4).trans rfl
                          have hcz39_5 : wc.cell? ⟨gb118, 5, none⟩ = some (.bool a0_5) := (blk_cell BK118.out 5).trans rfl
                          have hfz39_0 := blk_frozen BK118.out 0
                          have hfz39_1 := blk_frozen BK118.out 1
                          have hfz39_2 := blk_frozen BK118.out 2
                          have hfz39_3 := blk_frozen BK118.out 3
                          have hfz39_4 := blk_frozen BK118.out 4
                          have hfz39_5 := blk_frozen BK118.out 5
                          go_wp2
                          go_ret3
                          exact ⟨by first | rfl | (simp [errW_none, errW_some] <;> rfl) | (simp [*, errW_none, errW_some] <;> rfl), by repeat (first | (with_reducible first | exact HB.out | apply below_alloc | apply pw_below_drewN | apply below_drew1 | refine below_set ?_ GE118.out) | exact HB.out)⟩
                        · rw [if_neg c38] at H
                          have c38b0 : decide (x2_6 ≤ x3_18) = false := decide_eq_false c38
                          clear c38
                          by_cases c40 : x3_18 = x2_6
                          · rw [if_pos c40] at H
                            have c40b0 : (x3_18 == x2_6) = true := beq_iff_eq.mpr c40
                            have c40b1 : (x3_18 != x2_6) = false := bne_eq_false_iff_eq.mpr c40
                            clear c40
                            simp only [Option.some.injEq, Prod.mk.injEq] at H
                            obtain ⟨rfl, rfl, rfl⟩ := H
                            have hcz41_0 : wc.cell? ⟨gb118, 0, none⟩ = some (.bool a0_0) := (blk_cell BK118.out 0).trans rfl
                            have hcz41_1 : wc.cell? ⟨gb118, 1, none⟩ = some (.bool a0_1) := (blk_cell BK118.out 1).trans rfl
                            have hcz41_2 : wc.cell? ⟨gb118, 2, none⟩ = some (.bool false) := (blk_cell BK118.out 2).trans rfl
                            have hcz41_3 : wc.cell? ⟨gb118, 3, none⟩ = some (.bool true) := (blk_cell BK118.out 3).trans rfl
                            have hcz41_4 : wc.cell? ⟨gb118, 4, none⟩ = some (.bool a0_4) := (blk_cell BK118.out 4).trans rfl
                            have hcz41_5 : wc.cell? ⟨gb118, 5, none⟩ = some (.bool a0_5) := (blk_cell BK118.out 5).trans rfl
                            have hfz41_0 := blk_frozen BK118.out 0
                            have hfz41_1 := blk_frozen BK118.out 1
                            have hfz41_2 := blk_frozen BK118.out 2
                            have hfz41_3 := blk_frozen BK118.out 3
                            have hfz41_4 := blk_frozen BK118.out 4
                            have hfz41_5 := blk_frozen BK118.out 5
                            go_wp2
                            go_ret3
                            exact ⟨by first | rfl | (simp [errW_none, errW_some] <;> rfl) | (simp [*, errW_none, errW_some] <;> rfl), by repeat (first | (with_reducible first | exact HB.out | apply below_alloc | apply pw_below_drewN | apply below_drew1 | refine below_set ?_ GE118.out) | exact HB.out)⟩
                          · rw [if_neg c40] at H
                            have c40b0 : (x3_18 == x2_6) = false := beq_eq_false_iff_ne.mpr c40
                            have c40b1 : (x3_18 != x2_6) = true := bne_iff_ne.mpr c40
                            simp only [Option.some.injEq, Prod.mk.injEq] at H
                            obtain ⟨rfl, rfl, rfl⟩ := H
                            have hcz42_0 : wc.cell? ⟨gb118, 0, none⟩ = some (.bool a0_0) := (blk_cell BK118.out 0).trans rfl
                            have hcz42_1 : wc.cell? ⟨gb118, 1, none⟩ = some (.bool a0_1) := (blk_cell BK118.out 1).trans rfl
                            have hcz42_2 : wc.cell? ⟨gb118, 2, none⟩ = some (.bool false) := (blk_cell BK118.out 2).trans rfl
                            have hcz42_3 : wc.cell? ⟨gb118, 3, none⟩ = some (.bool true) := (blk_cell BK118.out 3).trans rfl
                            have hcz42_4 : wc.cell? ⟨gb118, 4, none⟩ = some (.bool a0_4) := (blk_cell BK118.out 4).trans rfl
                            have hcz42_5 : wc.cell? ⟨gb118, 5, none⟩ = some (.bool a0_5) := (blk_cell BK118.out 5).trans rfl
                            have hfz42_0 := blk_frozen BK118.out 0
                            have hfz42_1 := blk_frozen BK118.out 1
                            have hfz42_2 := blk_frozen BK118.out 2
                            have hfz42_3 := blk_frozen BK118.out 3
                            have hfz42_4 := blk_frozen BK118.out 4
                            have hfz42_5 := blk_frozen BK118.out 5
                            go_wp2
                            go_ret3
                            exact ⟨by first | rfl | (simp [errW_none, errW_some] <;> rfl) | (simp [*, errW_none, errW_some] <;> rfl), by repeat (first | (with_reducible first | exact HB.out | apply below_alloc | apply pw_below_drewN | apply below_drew1 | refine below_set ?_ GE118.out) | exact HB.out)⟩
                      · replace c37 := Bool.eq_false_iff.mpr c37
                        subst c37
                        have H1 : (if x3_18 = x2_6 then (some (x2_6, 0, 0)) else (some (x3_18, 2, 0))) = some (r1, r2, r3) := by rw [if_neg (show ¬ (false = true) by decide)] at H; exact H
                        clear H
                        have H := H1
                        clear H1
                        by_cases c43 : x3_18 = x2_6
                        · rw [if_pos c43] at H
                          have c43b0 : (x3_18 == x2_6) = true := beq_iff_eq.mpr c43
                          have c43b1 : (x3_18 != x2_6) = false := bne_eq_false_iff_eq.mpr c43
                          clear c43
                          simp only [Option.some.injEq, Prod.mk.injEq] at H
                          obtain ⟨rfl, rfl, rfl⟩ := H
                          have hcz44_0 : wc.cell? ⟨gb118, 0, none⟩ = some (.bool a0_0) := (blk_cell BK118.out 0).trans rfl
                          have hcz44_1 : wc.cell? ⟨gb118, 1, none⟩ = some (.bool a0_1) := (blk_cell BK118.out 1).trans rfl
                          have hcz44_2 : wc.cell? ⟨gb118, 2, none⟩ = some (.bool false) := (blk_cell BK118.out 2).trans rfl
                          have hcz44_3 : wc.cell? ⟨gb118, 3, none⟩ = some (.bool false) := (blk_cell BK118.out 3).trans rfl
                          have hcz44_4 : wc.cell? ⟨gb118, 4, none⟩ = some (.bool a0_4) := (blk_cell BK118.out 4).trans rfl
                          have hcz44_5 : wc.cell? ⟨gb118, 5, none⟩ = some (.bool a0_5) := (blk_cell BK118.out 5).trans rfl
                          have hfz44_0 := blk_frozen BK118.out 0
                          have hfz44_1 := blk_frozen BK118.out 1
                          have hfz44_2 := blk_frozen BK118.out 2
                          have hfz44_3 := blk_frozen BK118.out 3
                          have hfz44_4 := blk_frozen BK118.out 4
                          have hfz44_5 := blk_frozen BK118.out 5
                          go_wp2
                          go_ret3
                          exact ⟨by first | rfl | (simp [errW_none, errW_some] <;> rfl) | (simp [*, errW_none, errW_some] <;> rfl), by repeat (first | (with_reducible first | exact HB.out | apply below_alloc | apply pw_below_drewN | apply below_drew1 | refine below_set ?_ GE118.out) | exact HB.out)⟩
                        · rw [if_neg c43] at H
                          have c43b0 : (x3_18 == x2_6) = false := beq_eq_false_iff_ne.mpr c43
                          have c43b1 : (x3_18 != x2_6) = true := bne_iff_ne.mpr c43
                          simp only [Option.some.injEq, Prod.mk.injEq] at H
                          obtain ⟨rfl, rfl, rfl⟩ := H
                          have hcz45_0 : wc.cell? ⟨gb118, 0, none⟩ = some (.bool a0_0) := (blk_cell BK118.out 0).trans rfl
                          have hcz45_1 : wc.cell? ⟨gb118, 1, none⟩ = some (.bool a0_1) := (blk_cell BK118.out 1).trans rfl
                          have hcz45_2 : wc.cell? ⟨gb118, 2, none⟩ = some (.bool false) := (blk_cell BK118.out 2).trans rfl
                          have hcz45_3 : wc.cell? ⟨gb118, 3, none⟩ = some (.bool false) := (blk_cell BK118.out 3).trans rfl
                          have hcz45_4 : wc.cell? ⟨gb118, 4, none⟩ = some (.bool a0_4) := (blk_cell BK118.out 4).trans rfl
                          have hcz45_5 : wc.cell? ⟨gb118, 5, none⟩ = some (.bool a0_5) := (blk_cell BK118.out 5).trans rfl
                          have hfz45_0 := blk_frozen BK118.out 0
                          have hfz45_1 := blk_frozen BK118.out 1
                          have hfz45_2 := blk_frozen BK118.out 2
                          have hfz45_3 := blk_frozen BK118.out 3
                          have hfz45_4 := blk_frozen BK118.out 4
                          have hfz45_5 := blk_frozen BK118.out 5
                          go_wp2
                          go_ret3
                          exact ⟨by first | rfl | (simp [errW_none, errW_some] <;> rfl) | (simp [*, errW_none, errW_some] <;> rfl), by repeat (first | (with_reducible first | exact HB.out | apply below_alloc | apply pw_below_drewN | apply below_drew1 | refine below_set ?_ GE118.out) | exact HB.out)⟩
                  · replace c24 := Bool.eq_false_iff.mpr c24
                    subst c24
                    have H1 : (some (x3_18, 1, 0)) = some (r1, r2, r3) := by rw [if_neg (show ¬ (false = true) by decide)] at H; exact H
                    clear H
                    have H := H1
                    clear H1
                    simp only [Option.some.injEq, Prod.mk.injEq] at H
                    obtain ⟨rfl, rfl, rfl⟩ := H
                    go_wp2
                    go_ret3
                    exact ⟨by first | rfl | (simp [errW_none, errW_some] <;> rfl) | (simp [*, errW_none, errW_some] <;> rfl), by repeat (first | (with_reducible first | exact HB.out | apply below_alloc | apply pw_below_drewN | apply below_drew1 | refine below_set ?_ GE118.out) | exact HB.out)⟩
  · replace c6 := Bool.eq_false_iff.mpr c6
    subst c6
    have H1 : (some (0, 0, 110)) = some (r1, r2, r3) := by rw [if_neg (show ¬ (false = true) by decide)] at H; exact H
    clear H
    have H := H1
    clear H1
    simp only [Option.some.injEq, Prod.mk.injEq] at H
    obtain ⟨rfl, rfl, rfl⟩ := H
    go_enter Try.func11, Try.ntmps11
    go_wp2_with (first | ((with_reducible refine gate_dst (N := 4) rfl ?_); refine box_event ?hg (N := 4) ?hd (cs := #[.bool a0_0, .bool a0_1, .bool a0_2, .bool a0_3, .bool a0_4, .bool a0_5]) (t := 23) ?hr ?_; (case hd => rfl); (case hg => rfl); (case hr => first | (go_simp; done) | (go_simp; rfl)); intro gb118 hg w46 hbox hb; have n0_ := Aside0.mk (below_step (by repeat (first | (with_reducible first | exact HB.out | apply below_alloc | apply pw_below_drewN | apply below_drew1) | exact HB.out)) hb); have n1_ := Aside0.mk (hbox); have n2_ := Aside0.mk ((by rw [hg]; exact (below_size (by repeat (first | (with_reducible first | exact HB.out | apply below_alloc | apply pw_below_drewN | apply below_drew1) | exact HB.out))) : w.heap.size ≤ gb118)); have n3_ := Aside0.mk ((by rw [hg]; exact (below_size (by repeat (first | (with_reducible first | exact HB.out | apply below_alloc | apply pw_below_drewN | apply below_drew1) | exact HB.out))) : w.heap.size ≤ gb118)); clear HB; have HB := n0_; have BK118 := n1_; have GW118 := n2_; have GE118 := n3_; clear n0_ n1_ n2_ n3_; clear hb hbox hg; have hcz47_0 : w46.cell? ⟨gb118, 0, none⟩ = some (.bool a0_0) := (blk_cell BK118.out 0).trans rfl; have hcz47_1 : w46.cell? ⟨gb118, 1, none⟩ = some (.bool a0_1) := (blk_cell BK118.out 1).trans rfl; have hcz47_2 : w46.cell? ⟨gb118, 2, none⟩ = some (.bool a0_2) := (blk_cell BK118.out 2).trans rfl; have hcz47_3 : w46.cell? ⟨gb118, 3, none⟩ = some (.bool a0_3) := (blk_cell BK118.out 3).trans rfl; have hcz47_4 : w46.cell? ⟨gb118, 4, none⟩ = some (.bool a0_4) := (blk_cell BK118.out 4).trans rfl; have hcz47_5 : w46.cell? ⟨gb118, 5, none⟩ = some (.bool a0_5) := (blk_cell BK118.out 5).trans rfl; have hfz47_0 := blk_frozen BK118.out 0; have hfz47_1 := blk_frozen BK118.out 1; have hfz47_2 := blk_frozen BK118.out 2; have hfz47_3 := blk_frozen BK118.out 3; have hfz47_4 := blk_frozen BK118.out 4; have hfz47_5 := blk_frozen BK118.out 5) | ((with_reducible refine gate_callee (f := 13) rfl ?_); refine goesL_ (some 14) rfl rfl Try.func13 (by kernel_rfl) rfl #[.agg #[.bool a0_0, .bool a0_1, .bool a0_2, .bool a0_3, .bool a0_4, .bool a0_5]] rfl (by (try simp only [List.map_toArray, List.map_cons, List.map_nil]); first | done | rfl | (simp only [List.length_drop, List.length_take]; rfl)) ?_; (with_reducible refine (palioref12_Right.calls a0_0 a0_1 a0_2 a0_3 a0_4 a0_5 false _ A5.out).mono ?_); rintro e w48 ⟨rfl, hb⟩; refine ⟨_, rfl, ?_⟩; have n0_ := Aside0.mk (blk_below (g := gb118) (o := .cells #[.bool a0_0, .bool a0_1, .bool a0_2, .bool a0_3, .bool a0_4, .bool a0_5] 23 (0, 0)) (by (with_reducible repeat (first | refine blk_drewN ?_ _ | refine blk_drew ?_ | refine blk_alloc ?_ _)); exact BK118.out) hb); have n1_ := Aside0.mk (below_step (by repeat (first | (with_reducible first | exact HB.out | apply below_alloc | apply pw_below_drewN | apply below_drew1 | refine below_set ?_ GE118.out) | exact HB.out)) hb); clear BK118; clear HB; have BK118 := n0_; have HB := n1_; clear n0_ n1_; (try clear hb); (try clear hb2); (try clear hk); (try clear hi)))
    go_ret3
    exact ⟨by first | rfl | (simp [errW_none, errW_some] <;> rfl) | (simp [*, errW_none, errW_some] <;> rfl), by repeat (first | (with_reducible first | exact HB.out | apply below_alloc | apply pw_below_drewN | apply below_drew1 | refine below_set ?_ GE118.out) | exact HB.out)⟩

end Go.Proofs.Ytndjbhibajjaoaa.P
