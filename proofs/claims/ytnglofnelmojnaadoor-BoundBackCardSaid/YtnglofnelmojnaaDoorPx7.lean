/- Each theorem <function>.calls: a call of the Go function comes to the answer of the Lean function <function>.f. Conditions: that the Lean function has an answer; each theorem names its own. -/
import Derived.Test.YtnglofnelmojnaaDoorPx0
import Derived.Test.YtnglofnelmojnaaDoorPx1
import Derived.Test.YtnglofnelmojnaaDoorPx2
import Derived.Test.YtnglofnelmojnaaDoorPx5
namespace Go.Proofs.YtnglofnelmojnaaDoor.P
open Go.RowKit Go.Proofs.YtnglofnelmojnaaDoorW.PrintWords Go.Proofs.YtnglofnelmojnaaDoorW.PrintLast Go.Proofs.YtnglofnelmojnaaDoorW.PrintMore
attribute [local go_sem] max2_int min2_int max_two min_two max_three min_three max_four min_four   -- for this text's walks alone
set_option linter.unusedVariables false
set_option linter.unusedSimpArgs false

attribute [local go_sem high] eqA23 eqA33
/-! ### palioref09_Format: function 10 -/
def palioref09_Format.f (k : Nat) (a0_0 : Int) (a0_1 : Bool) (a0_2 : Int) : Option (ByteArray × Int) := if (a0_0 == 0 && (!a0_1 && (a0_2 == (-1)))) = true then (some ((⟨#[45, 105, 110, 102]⟩ : ByteArray), 0)) else (if (a0_0 == 0 && (!a0_1 && (a0_2 == 1))) = true then (some ((⟨#[43, 105, 110, 102]⟩ : ByteArray), 0)) else (if a0_2 = 0 then (if a0_1 = true then ((palioref01_Format.f k a0_0).bind fun t162 => (if 1 + t162.size ≤ 9223372036854775807 then (some ((⟨#[40]⟩ : ByteArray) ++ t162, 0)) else (none))) else ((palioref01_Format.f k a0_0).bind fun t163 => (some (t163, 0)))) else (some ((⟨#[]⟩ : ByteArray), 80))))
theorem palioref09_Format.mono : ∀ a0 a1 a2 k, LeO (palioref09_Format.f k a0 a1 a2) (palioref09_Format.f (k + 1) a0 a1 a2) := by
  intro a0 a1 a2 k
  unfold palioref09_Format.f
  repeat' first
      | (with_reducible exact palioref01_Format.mono _ _)
      | (with_reducible exact LeO.refl _)
      | (with_reducible exact LeO.none _)
      | (with_reducible refine LeO.ite ?_ ?_)
      | (with_reducible refine LeO.bind ?_ (fun _ => ?_))
      | exact palioref01_Format.mono _ _
      | exact LeO.none _
      | refine LeO.ite ?_ ?_
      | refine LeO.bind ?_ (fun _ => ?_)
set_option maxHeartbeats 8000000 in
set_option maxRecDepth 100000 in
theorem palioref09_Format.calls (k : Nat) (a0_0 : Int) (a0_1 : Bool) (a0_2 : Int) (r1 : ByteArray) (r2 : Int) (w : World) (h : palioref09_Format.f k a0_0 a0_1 a0_2 = some (r1, r2)) :
    Calls Tryd.prog 10 #[.agg #[.int .i64 a0_0, .bool a0_1, .int .i64 a0_2]] w fun e w' => e = .returned (.tuple #[.string r1, .int .i64 r2]) ∧ Below w.heap.size w w' := by
  have hu23 := Tryd.underlying23
  have HB := Aside0.mk (Below.refl w.heap.size w)
  have H : (if (a0_0 == 0 && (!a0_1 && (a0_2 == (-1)))) = true then (some ((⟨#[45, 105, 110, 102]⟩ : ByteArray), 0)) else (if (a0_0 == 0 && (!a0_1 && (a0_2 == 1))) = true then (some ((⟨#[43, 105, 110, 102]⟩ : ByteArray), 0)) else (if a0_2 = 0 then (if a0_1 = true then ((palioref01_Format.f k a0_0).bind fun t162 => (if 1 + t162.size ≤ 9223372036854775807 then (some ((⟨#[40]⟩ : ByteArray) ++ t162, 0)) else (none))) else ((palioref01_Format.f k a0_0).bind fun t163 => (some (t163, 0)))) else (some ((⟨#[]⟩ : ByteArray), 80))))) = some (r1, r2) := h
  clear h
  by_cases c2 : (a0_0 == 0 && (!a0_1 && (a0_2 == (-1)))) = true
  · rw [if_pos c2] at H
    have c2b0 : (a0_0 == 0 && (!a0_1 && (a0_2 == (-1)))) = true := c2
    (try (have c2b1 : decide (a0_0 = 0 && (!a0_1 && (a0_2 == (-1)))) = true := by simpa using c2))
    (try (have c2b2 : (a0_0 == 0 && (!a0_1 && (a0_2 == (-1)))) = true := by simpa using c2))
    clear c2
    simp only [Option.some.injEq, Prod.mk.injEq] at H
    obtain ⟨rfl, rfl⟩ := H
    go_enter Tryd.func10, Tryd.ntmps10
    go_wp2_with (first | ((with_reducible refine gate_dst (N := 1) rfl ?_); refine box_event ?hg (N := 1) ?hd (cs := #[.int .i64 a0_0, .bool a0_1, .int .i64 a0_2]) (t := 23) ?hr ?_; (case hd => rfl); (case hg => rfl); (case hr => first | (go_simp; done) | (go_simp; rfl)); intro gb161 hg w3 hbox hb; have n0_ := Aside0.mk (below_step (by repeat (first | (with_reducible first | exact HB.out | apply below_alloc | apply pw_below_drewN | apply below_drew1) | exact HB.out)) hb); have n1_ := Aside0.mk (hbox); have n2_ := Aside0.mk ((by rw [hg]; exact (below_size (by repeat (first | (with_reducible first | exact HB.out | apply below_alloc | apply pw_below_drewN | apply below_drew1) | exact HB.out))) : w.heap.size ≤ gb161)); have n3_ := Aside0.mk ((by rw [hg]; exact (below_size (by repeat (first | (with_reducible first | exact HB.out | apply below_alloc | apply pw_below_drewN | apply below_drew1) | exact HB.out))) : w.heap.size ≤ gb161)); clear HB; have HB := n0_; have BK161 := n1_; have GW161 := n2_; have GE161 := n3_; clear n0_ n1_ n2_ n3_; clear hb hbox hg; have hcz4_0 : w3.cell? ⟨gb161, 0, none⟩ = some (.int .i64 a0_0) := (blk_cell BK161.out 0).trans rfl; have hcz4_1 : w3.cell? ⟨gb161, 1, none⟩ = some (.bool a0_1) := (blk_cell BK161.out 1).trans rfl; have hcz4_2 : w3.cell? ⟨gb161, 2, none⟩ = some (.int .i64 a0_2) := (blk_cell BK161.out 2).trans rfl; have hfz4_0 := blk_frozen BK161.out 0; have hfz4_1 := blk_frozen BK161.out 1; have hfz4_2 := blk_frozen BK161.out 2))
    go_ret2
    exact ⟨by first | rfl | (simp [errW_none, errW_some] <;> rfl) | (simp [*, errW_none, errW_some] <;> rfl), by repeat (first | (with_reducible first | exact HB.out | apply below_alloc | apply pw_below_drewN | apply below_drew1 | refine below_set ?_ GE161.out) | exact HB.out)⟩
  · rw [if_neg c2] at H
    have c2b0 : (a0_0 == 0 && (!a0_1 && (a0_2 == (-1)))) = false := by simpa using c2
    (try (have c2b1 : decide (a0_0 = 0 && (!a0_1 && (a0_2 == (-1)))) = false := by simpa using c2))
    (try (have c2b2 : (a0_0 == 0 && (!a0_1 && (a0_2 == (-1)))) = false := by simpa using c2))
    (try (have c2b3 : ¬ (a0_0 = 0 && (!a0_1 && (a0_2 == (-1)))) := by simpa using c2))
    clear c2
    by_cases c5 : (a0_0 == 0 && (!a0_1 && (a0_2 == 1))) = true
    · rw [if_pos c5] at H
      have c5b0 : (a0_0 == 0 && (!a0_1 && (a0_2 == 1))) = true := c5
      (try (have c5b1 : decide (a0_0 = 0 && (!a0_1 && (a0_2 == 1))) = true := by simpa using c5))
      (try (have c5b2 : (a0_0 == 0 && (!a0_1 && (a0_2 == 1))) = true := by simpa using c5))
      clear c5
      simp only [Option.some.injEq, Prod.mk.injEq] at H
      obtain ⟨rfl, rfl⟩ := H
      go_enter Tryd.func10, Tryd.ntmps10
      go_wp2_with (first | ((with_reducible refine gate_dst (N := 1) rfl ?_); refine box_event ?hg (N := 1) ?hd (cs := #[.int .i64 a0_0, .bool a0_1, .int .i64 a0_2]) (t := 23) ?hr ?_; (case hd => rfl); (case hg => rfl); (case hr => first | (go_simp; done) | (go_simp; rfl)); intro gb161 hg w6 hbox hb; have n0_ := Aside0.mk (below_step (by repeat (first | (with_reducible first | exact HB.out | apply below_alloc | apply pw_below_drewN | apply below_drew1) | exact HB.out)) hb); have n1_ := Aside0.mk (hbox); have n2_ := Aside0.mk ((by rw [hg]; exact (below_size (by repeat (first | (with_reducible first | exact HB.out | apply below_alloc | apply pw_below_drewN | apply below_drew1) | exact HB.out))) : w.heap.size ≤ gb161)); have n3_ := Aside0.mk ((by rw [hg]; exact (below_size (by repeat (first | (with_reducible first | exact HB.out | apply below_alloc | apply pw_below_drewN | apply below_drew1) | exact HB.out))) : w.heap.size ≤ gb161)); clear HB; have HB := n0_; have BK161 := n1_; have GW161 := n2_; have GE161 := n3_; clear n0_ n1_ n2_ n3_; clear hb hbox hg; have hcz7_0 : w6.cell? ⟨gb161, 0, none⟩ = some (.int .i64 a0_0) := (blk_cell BK161.out 0).trans rfl; have hcz7_1 : w6.cell? ⟨gb161, 1, none⟩ = some (.bool a0_1) := (blk_cell BK161.out 1).trans rfl; have hcz7_2 : w6.cell? ⟨gb161, 2, none⟩ = some (.int .i64 a0_2) := (blk_cell BK161.out 2).trans rfl; have hfz7_0 := blk_frozen BK161.out 0; have hfz7_1 := blk_frozen BK161.out 1; have hfz7_2 := blk_frozen BK161.out 2))
      go_ret2
      exact ⟨by first | rfl | (simp [errW_none, errW_some] <;> rfl) | (simp [*, errW_none, errW_some] <;> rfl), by repeat (first | (with_reducible first | exact HB.out | apply below_alloc | apply pw_below_drewN | apply below_drew1 | refine below_set ?_ GE161.out) | exact HB.out)⟩
    · rw [if_neg c5] at H
      have c5b0 : (a0_0 == 0 && (!a0_1 && (a0_2 == 1))) = false := by simpa using c5
      (try (have c5b1 : decide (a0_0 = 0 && (!a0_1 && (a0_2 == 1))) = false := by simpa using c5))
      (try (have c5b2 : (a0_0 == 0 && (!a0_1 && (a0_2 == 1))) = false := by simpa using c5))
      (try (have c5b3 : ¬ (a0_0 = 0 && (!a0_1 && (a0_2 == 1))) := by simpa using c5))
      clear c5
      by_cases c8 : a0_2 = 0
      · rw [if_pos c8] at H
        have c8b0 : (a0_2 == 0) = true := beq_iff_eq.mpr c8
        have c8b1 : (a0_2 != 0) = false := bne_eq_false_iff_eq.mpr c8
        clear c8
        by_cases c9 : a0_1 = true
        · subst c9
          have H1 : ((palioref01_Format.f k a0_0).bind fun t162 => (if 1 + t162.size ≤ 9223372036854775807 then (some ((⟨#[40]⟩ : ByteArray) ++ t162, 0)) else (none))) = some (r1, r2) := by rw [if_pos rfl] at H; exact H
          clear H
          have H := H1
          clear H1
          replace H := Option.bind_eq_some_iff.mp H
          obtain ⟨t162, A100, H⟩ := H
          replace H : (if 1 + t162.size ≤ 9223372036854775807 then (some ((⟨#[40]⟩ : ByteArray) ++ t162, 0)) else (none)) = some (r1, r2) := H
          have A10 := Aside0.mk A100
          clear A100
          by_cases c11 : 1 + t162.size ≤ 9223372036854775807
          · rw [if_pos c11] at H
            have c11b0 := eq_true c11
            have c11b1 : decide (1 + t162.size ≤ 9223372036854775807) = true := decide_eq_true c11
            try have c11b2 : (9223372036854775807 < 1 + t162.size) = False := eq_false (Nat.not_lt.2 c11)
            simp only [Option.some.injEq, Prod.mk.injEq] at H
            obtain ⟨rfl, rfl⟩ := H
            go_enter Tryd.func10, Tryd.ntmps10
            go_wp2_with (first | ((with_reducible refine gate_dst (N := 1) rfl ?_); refine box_event ?hg (N := 1) ?hd (cs := #[.int .i64 a0_0, .bool true, .int .i64 a0_2]) (t := 23) ?hr ?_; (case hd => rfl); (case hg => rfl); (case hr => first | (go_simp; done) | (go_simp; rfl)); intro gb161 hg w12 hbox hb; have n0_ := Aside0.mk (below_step (by repeat (first | (with_reducible first | exact HB.out | apply below_alloc | apply pw_below_drewN | apply below_drew1) | exact HB.out)) hb); have n1_ := Aside0.mk (hbox); have n2_ := Aside0.mk ((by rw [hg]; exact (below_size (by repeat (first | (with_reducible first | exact HB.out | apply below_alloc | apply pw_below_drewN | apply below_drew1) | exact HB.out))) : w.heap.size ≤ gb161)); have n3_ := Aside0.mk ((by rw [hg]; exact (below_size (by repeat (first | (with_reducible first | exact HB.out | apply below_alloc | apply pw_below_drewN | apply below_drew1) | exact HB.out))) : w.heap.size ≤ gb161)); clear HB; have HB := n0_; have BK161 := n1_; have GW161 := n2_; have GE161 := n3_; clear n0_ n1_ n2_ n3_; clear hb hbox hg; have hcz13_0 : w12.cell? ⟨gb161, 0, none⟩ = some (.int .i64 a0_0) := (blk_cell BK161.out 0).trans rfl; have hcz13_1 : w12.cell? ⟨gb161, 1, none⟩ = some (.bool true) := (blk_cell BK161.out 1).trans rfl; have hcz13_2 : w12.cell? ⟨gb161, 2, none⟩ = some (.int .i64 a0_2) := (blk_cell BK161.out 2).trans rfl; have hfz13_0 := blk_frozen BK161.out 0; have hfz13_1 := blk_frozen BK161.out 1; have hfz13_2 := blk_frozen BK161.out 2) | ((with_reducible refine gate_callee (f := 19) rfl ?_); refine goesL_ (some 17) rfl rfl Tryd.func19 (by kernel_rfl) rfl #[.int .i64 a0_0] rfl (by (try simp only [List.map_toArray, List.map_cons, List.map_nil]); first | done | rfl | (simp only [List.length_drop, List.length_take]; rfl)) ?_; (with_reducible refine (palioref01_Format.calls k a0_0 t162 _ A10.out).mono ?_); rintro e w14 ⟨rfl, hb⟩; refine ⟨_, rfl, ?_⟩; have n0_ := Aside0.mk (blk_below (g := gb161) (o := .cells #[.int .i64 a0_0, .bool true, .int .i64 a0_2] 23 (0, 0)) (by (with_reducible repeat (first | refine blk_drewN ?_ _ | refine blk_drew ?_ | refine blk_alloc ?_ _)); exact BK161.out) hb); have n1_ := Aside0.mk (below_step (by repeat (first | (with_reducible first | exact HB.out | apply below_alloc | apply pw_below_drewN | apply below_drew1 | refine below_set ?_ GE161.out) | exact HB.out)) hb); clear BK161; clear HB; have BK161 := n0_; have HB := n1_; clear n0_ n1_; (try clear hb); (try clear hb2); (try clear hk); (try clear hi)))
            go_ret2
            exact ⟨by first | rfl | (simp [errW_none, errW_some] <;> rfl) | (simp [*, errW_none, errW_some] <;> rfl), by repeat (first | (with_reducible first | exact HB.out | apply below_alloc | apply pw_below_drewN | apply below_drew1 | refine below_set ?_ GE161.out) | exact HB.out)⟩
          · rw [if_neg c11] at H
            exact absurd H (by simp)
        · replace c9 := Bool.eq_false_iff.mpr c9
          subst c9
          try (have c2b8 := c2b0; simp only [Bool.not_false, Bool.true_and] at c2b8)
          try (have c5b8 := c5b0; simp only [Bool.not_false, Bool.true_and] at c5b8)
          have H1 : ((palioref01_Format.f k a0_0).bind fun t163 => (some (t163, 0))) = some (r1, r2) := by rw [if_neg (show ¬ (false = true) by decide)] at H; exact H
          clear H
          have H := H1
          clear H1
          replace H := Option.bind_eq_some_iff.mp H
          obtain ⟨t163, A150, H⟩ := H
          replace H : (some (t163, 0)) = some (r1, r2) := H
          have A15 := Aside0.mk A150
          clear A150
          simp only [Option.some.injEq, Prod.mk.injEq] at H
          obtain ⟨rfl, rfl⟩ := H
          go_enter Tryd.func10, Tryd.ntmps10
          go_wp2_with (first | ((with_reducible refine gate_dst (N := 1) rfl ?_); refine box_event ?hg (N := 1) ?hd (cs := #[.int .i64 a0_0, .bool false, .int .i64 a0_2]) (t := 23) ?hr ?_; (case hd => rfl); (case hg => rfl); (case hr => first | (go_simp; done) | (go_simp; rfl)); intro gb161 hg w16 hbox hb; have n0_ := Aside0.mk (below_step (by repeat (first | (with_reducible first | exact HB.out | apply below_alloc | apply pw_below_drewN | apply below_drew1) | exact HB.out)) hb); have n1_ := Aside0.mk (hbox); have n2_ := Aside0.mk ((by rw [hg]; exact (below_size (by repeat (first | (with_reducible first | exact HB.out | apply below_alloc | apply pw_below_drewN | apply below_drew1) | exact HB.out))) : w.heap.size ≤ gb161)); have n3_ := Aside0.mk ((by rw [hg]; exact (below_size (by repeat (first | (with_reducible first | exact HB.out | apply below_alloc | apply pw_below_drewN | apply below_drew1) | exact HB.out))) : w.heap.size ≤ gb161)); clear HB; have HB := n0_; have BK161 := n1_; have GW161 := n2_; have GE161 := n3_; clear n0_ n1_ n2_ n3_; clear hb hbox hg; have hcz17_0 : w16.cell? ⟨gb161, 0, none⟩ = some (.int .i64 a0_0) := (blk_cell BK161.out 0).trans rfl; have hcz17_1 : w16.cell? ⟨gb161, 1, none⟩ = some (.bool false) := (blk_cell BK161.out 1).trans rfl; have hcz17_2 : w16.cell? ⟨gb161, 2, none⟩ = some (.int .i64 a0_2) := (blk_cell BK161.out 2).trans rfl; have hfz17_0 := blk_frozen BK161.out 0; have hfz17_1 := blk_frozen BK161.out 1; have hfz17_2 := blk_frozen BK161.out 2) | ((with_reducible refine gate_callee (f := 19) rfl ?_); refine goesL_ (some 21) rfl rfl Tryd.func19 (by kernel_rfl) rfl #[.int .i64 a0_0] rfl (by (try simp only [List.map_toArray, List.map_cons, List.map_nil]); first | done | rfl | (simp only [List.length_drop, List.length_take]; rfl)) ?_; (with_reducible refine (palioref01_Format.calls k a0_0 t163 _ A15.out).mono ?_); rintro e w18 ⟨rfl, hb⟩; refine ⟨_, rfl, ?_⟩; have n0_ := Aside0.mk (blk_below (g := gb161) (o := .cells #[.int .i64 a0_0, .bool false, .int .i64 a0_2] 23 (0, 0)) (by (with_reducible repeat (first | refine blk_drewN ?_ _ | refine blk_drew ?_ | refine blk_alloc ?_ _)); exact BK161.out) hb); have n1_ := Aside0.mk (below_step (by repeat (first | (with_reducible first | exact HB.out | apply below_alloc | apply pw_below_drewN | apply below_drew1 | refine below_set ?_ GE161.out) | exact HB.out)) hb); clear BK161; clear HB; have BK161 := n0_; have HB := n1_; clear n0_ n1_; (try clear hb); (try clear hb2); (try clear hk); (try clear hi)))
          go_ret2
          exact ⟨by first | rfl | (simp [errW_none, errW_some] <;> rfl) | (simp [*, errW_none, errW_some] <;> rfl), by repeat (first | (with_reducible first | exact HB.out | apply below_alloc | apply pw_below_drewN | apply below_drew1 | refine below_set ?_ GE161.out) | exact HB.out)⟩
      · rw [if_neg c8] at H
        have c8b0 : (a0_2 == 0) = false := beq_eq_false_iff_ne.mpr c8
        have c8b1 : (a0_2 != 0) = true := bne_iff_ne.mpr c8
        simp only [Option.some.injEq, Prod.mk.injEq] at H
        obtain ⟨rfl, rfl⟩ := H
        go_enter Tryd.func10, Tryd.ntmps10
        go_wp2_with (first | ((with_reducible refine gate_dst (N := 1) rfl ?_); refine box_event ?hg (N := 1) ?hd (cs := #[.int .i64 a0_0, .bool a0_1, .int .i64 a0_2]) (t := 23) ?hr ?_; (case hd => rfl); (case hg => rfl); (case hr => first | (go_simp; done) | (go_simp; rfl)); intro gb161 hg w19 hbox hb; have n0_ := Aside0.mk (below_step (by repeat (first | (with_reducible first | exact HB.out | apply below_alloc | apply pw_below_drewN | apply below_drew1) | exact HB.out)) hb); have n1_ := Aside0.mk (hbox); have n2_ := Aside0.mk ((by rw [hg]; exact (below_size (by repeat (first | (with_reducible first | exact HB.out | apply below_alloc | apply pw_below_drewN | apply below_drew1) | exact HB.out))) : w.heap.size ≤ gb161)); have n3_ := Aside0.mk ((by rw [hg]; exact (below_size (by repeat (first | (with_reducible first | exact HB.out | apply below_alloc | apply pw_below_drewN | apply below_drew1) | exact HB.out))) : w.heap.size ≤ gb161)); clear HB; have HB := n0_; have BK161 := n1_; have GW161 := n2_; have GE161 := n3_; clear n0_ n1_ n2_ n3_; clear hb hbox hg; have hcz20_0 : w19.cell? ⟨gb161, 0, none⟩ = some (.int .i64 a0_0) := (blk_cell BK161.out 0).trans rfl; have hcz20_1 : w19.cell? ⟨gb161, 1, none⟩ = some (.bool a0_1) := (blk_cell BK161.out 1).trans rfl; have hcz20_2 : w19.cell? ⟨gb161, 2, none⟩ = some (.int .i64 a0_2) := (blk_cell BK161.out 2).trans rfl; have hfz20_0 := blk_frozen BK161.out 0; have hfz20_1 := blk_frozen BK161.out 1; have hfz20_2 := blk_frozen BK161.out 2))
        go_ret2
        exact ⟨by first | rfl | (simp [errW_none, errW_some] <;> rfl) | (simp [*, errW_none, errW_some] <;> rfl), by repeat (first | (with_reducible first | exact HB.out | apply below_alloc | apply pw_below_drewN | apply below_drew1 | refine below_set ?_ GE161.out) | exact HB.out)⟩

/-! ### bound_FormatEdge: function 11 -/
def bound_FormatEdge.f (a0_0 : ByteArray) (a0_1 : Bool) (a0_2 : Int) : Option (ByteArray × Int) := if (a0_0.toList == ([] : List UInt8) && (!a0_1 && (a0_2 == (-1)))) = true then (some ((⟨#[45]⟩ : ByteArray), 0)) else (if (a0_0.toList == ([] : List UInt8) && (!a0_1 && (a0_2 == 1))) = true then (some ((⟨#[43]⟩ : ByteArray), 0)) else (if a0_2 = 0 then (if a0_1 = true then (if 1 + a0_0.size ≤ 9223372036854775807 then (some ((⟨#[40]⟩ : ByteArray) ++ a0_0, 0)) else (none)) else (if 1 + a0_0.size ≤ 9223372036854775807 then (some ((⟨#[91]⟩ : ByteArray) ++ a0_0, 0)) else (none))) else (some ((⟨#[]⟩ : ByteArray), 80))))
set_option maxHeartbeats 8000000 in
set_option maxRecDepth 100000 in
theorem bound_FormatEdge.calls (a0_0 : ByteArray) (a0_1 : Bool) (a0_2 : Int) (r1 : ByteArray) (r2 : Int) (w : World) (h : bound_FormatEdge.f a0_0 a0_1 a0_2 = some (r1, r2)) :
    Calls Tryd.prog 11 #[.agg #[.string a0_0, .bool a0_1, .int .i64 a0_2]] w fun e w' => e = .returned (.tuple #[.string r1, .int .i64 r2]) ∧ Below w.heap.size w w' := by
  have hu33 := Tryd.underlying33
  have HB := Aside0.mk (Below.refl w.heap.size w)
  have H : (if (a0_0.toList == ([] : List UInt8) && (!a0_1 && (a0_2 == (-1)))) = true then (some ((⟨#[45]⟩ : ByteArray), 0)) else (if (a0_0.toList == ([] : List UInt8) && (!a0_1 && (a0_2 == 1))) = true then (some ((⟨#[43]⟩ : ByteArray), 0)) else (if a0_2 = 0 then (if a0_1 = true then (if 1 + a0_0.size ≤ 9223372036854775807 then (some ((⟨#[40]⟩ : ByteArray) ++ a0_0, 0)) else (none)) else (if 1 + a0_0.size ≤ 9223372036854775807 then (some ((⟨#[91]⟩ : ByteArray) ++ a0_0, 0)) else (none))) else (some ((⟨#[]⟩ : ByteArray), 80))))) = some (r1, r2) := h
  clear h
  by_cases c2 : (a0_0.toList == ([] : List UInt8) && (!a0_1 && (a0_2 == (-1)))) = true
  · rw [if_pos c2] at H
    have c2b0 : (a0_0.toList == ([] : List UInt8) && (!a0_1 && (a0_2 == (-1)))) = true := c2
    have c2b9 : (a0_0.toList.isEmpty && (!a0_1 && (a0_2 == (-1)))) = true := by rw [← c2b0]; cases a0_0.toList <;> rfl
    have c2b9 : (a0_0.toList.isEmpty && (!a0_1 && (a0_2 == (-1)))) = true := by rw [← c2b0]; cases a0_0.toList <;> rfl
    (try (have c2b1 : decide (a0_0.toList = ([] : List UInt8) && (!a0_1 && (a0_2 == (-1)))) = true := by simpa using c2))
    (try (have c2b2 : (a0_0.toList == ([] : List UInt8) && (!a0_1 && (a0_2 == (-1)))) = true := by simpa using c2))
    clear c2
    simp only [Option.some.injEq, Prod.mk.injEq] at H
    obtain ⟨rfl, rfl⟩ := H
    go_enter Tryd.func11, Tryd.ntmps11
    go_wp2_with (first | ((with_reducible refine gate_dst (N := 1) rfl ?_); refine box_event ?hg (N := 1) ?hd (cs := #[.string a0_0, .bool a0_1, .int .i64 a0_2]) (t := 33) ?hr ?_; (case hd => rfl); (case hg => rfl); (case hr => first | (go_simp; done) | (go_simp; rfl)); intro gb164 hg w3 hbox hb; have n0_ := Aside0.mk (below_step (by repeat (first | (with_reducible first | exact HB.out | apply below_alloc | apply pw_below_drewN | apply below_drew1) | exact HB.out)) hb); have n1_ := Aside0.mk (hbox); have n2_ := Aside0.mk ((by rw [hg]; exact (below_size (by repeat (first | (with_reducible first | exact HB.out | apply below_alloc | apply pw_below_drewN | apply below_drew1) | exact HB.out))) : w.heap.size ≤ gb164)); have n3_ := Aside0.mk ((by rw [hg]; exact (below_size (by repeat (first | (with_reducible first | exact HB.out | apply below_alloc | apply pw_below_drewN | apply below_drew1) | exact HB.out))) : w.heap.size ≤ gb164)); clear HB; have HB := n0_; have BK164 := n1_; have GW164 := n2_; have GE164 := n3_; clear n0_ n1_ n2_ n3_; clear hb hbox hg; have hcz4_0 : w3.cell? ⟨gb164, 0, none⟩ = some (.string a0_0) := (blk_cell BK164.out 0).trans rfl; have hcz4_1 : w3.cell? ⟨gb164, 1, none⟩ = some (.bool a0_1) := (blk_cell BK164.out 1).trans rfl; have hcz4_2 : w3.cell? ⟨gb164, 2, none⟩ = some (.int .i64 a0_2) := (blk_cell BK164.out 2).trans rfl; have hfz4_0 := blk_frozen BK164.out 0; have hfz4_1 := blk_frozen BK164.out 1; have hfz4_2 := blk_frozen BK164.out 2))
    go_ret2
    exact ⟨by first | rfl | (simp [errW_none, errW_some] <;> rfl) | (simp [*, errW_none, errW_some] <;> rfl), by repeat (first | (with_reducible first | exact HB.out | apply below_alloc | apply pw_below_drewN | apply below_drew1 | refine below_set ?_ GE164.out) | exact HB.out)⟩
  · rw [if_neg c2] at H
    have c2b0 : (a0_0.toList == ([] : List UInt8) && (!a0_1 && (a0_2 == (-1)))) = false := by simpa using c2
    have c2b9 : (a0_0.toList.isEmpty && (!a0_1 && (a0_2 == (-1)))) = false := by rw [← c2b0]; cases a0_0.toList <;> rfl
    have c2b9 : (a0_0.toList.isEmpty && (!a0_1 && (a0_2 == (-1)))) = false := by rw [← c2b0]; cases a0_0.toList <;> rfl
    (try (have c2b1 : decide (a0_0.toList = ([] : List UInt8) && (!a0_1 && (a0_2 == (-1)))) = false := by simpa using c2))
    (try (have c2b2 : (a0_0.toList == ([] : List UInt8) && (!a0_1 && (a0_2 == (-1)))) = false := by simpa using c2))
    (try (have c2b3 : ¬ (a0_0.toList = ([] : List UInt8) && (!a0_1 && (a0_2 == (-1)))) := by simpa using c2))
    clear c2
    by_cases c5 : (a0_0.toList == ([] : List UInt8) && (!a0_1 && (a0_2 == 1))) = true
    · rw [if_pos c5] at H
      have c5b0 : (a0_0.toList == ([] : List UInt8) && (!a0_1 && (a0_2 == 1))) = true := c5
      have c5b9 : (a0_0.toList.isEmpty && (!a0_1 && (a0_2 == 1))) = true := by rw [← c5b0]; cases a0_0.toList <;> rfl
      have c5b9 : (a0_0.toList.isEmpty && (!a0_1 && (a0_2 == 1))) = true := by rw [← c5b0]; cases a0_0.toList <;> rfl
      (try (have c5b1 : decide (a0_0.toList = ([] : List UInt8) && (!a0_1 && (a0_2 == 1))) = true := by simpa using c5))
      (try (have c5b2 : (a0_0.toList == ([] : List UInt8) && (!a0_1 && (a0_2 == 1))) = true := by simpa using c5))
      clear c5
      simp only [Option.some.injEq, Prod.mk.injEq] at H
      obtain ⟨rfl, rfl⟩ := H
      go_enter Tryd.func11, Tryd.ntmps11
      go_wp2_with (first | ((with_reducible refine gate_dst (N := 1) rfl ?_); refine box_event ?hg (N := 1) ?hd (cs := #[.string a0_0, .bool a0_1, .int .i64 a0_2]) (t := 33) ?hr ?_; (case hd => rfl); (case hg => rfl); (case hr => first | (go_simp; done) | (go_simp; rfl)); intro gb164 hg w6 hbox hb; have n0_ := Aside0.mk (below_step (by repeat (first | (with_reducible first | exact HB.out | apply below_alloc | apply pw_below_drewN | apply below_drew1) | exact HB.out)) hb); have n1_ := Aside0.mk (hbox); have n2_ := Aside0.mk ((by rw [hg]; exact (below_size (by repeat (first | (with_reducible first | exact HB.out | apply below_alloc | apply pw_below_drewN | apply below_drew1) | exact HB.out))) : w.heap.size ≤ gb164)); have n3_ := Aside0.mk ((by rw [hg]; exact (below_size (by repeat (first | (with_reducible first | exact HB.out | apply below_alloc | apply pw_below_drewN | apply below_drew1) | exact HB.out))) : w.heap.size ≤ gb164)); clear HB; have HB := n0_; have BK164 := n1_; have GW164 := n2_; have GE164 := n3_; clear n0_ n1_ n2_ n3_; clear hb hbox hg; have hcz7_0 : w6.cell? ⟨gb164, 0, none⟩ = some (.string a0_0) := (blk_cell BK164.out 0).trans rfl; have hcz7_1 : w6.cell? ⟨gb164, 1, none⟩ = some (.bool a0_1) := (blk_cell BK164.out 1).trans rfl; have hcz7_2 : w6.cell? ⟨gb164, 2, none⟩ = some (.int .i64 a0_2) := (blk_cell BK164.out 2).trans rfl; have hfz7_0 := blk_frozen BK164.out 0; have hfz7_1 := blk_frozen BK164.out 1; have hfz7_2 := blk_frozen BK164.out 2))
      go_ret2
      exact ⟨by first | rfl | (simp [errW_none, errW_some] <;> rfl) | (simp [*, errW_none, errW_some] <;> rfl), by repeat (first | (with_reducible first | exact HB.out | apply below_alloc | apply pw_below_drewN | apply below_drew1 | refine below_set ?_ GE164.out) | exact HB.out)⟩
    · rw [if_neg c5] at H
      have c5b0 : (a0_0.toList == ([] : List UInt8) && (!a0_1 && (a0_2 == 1))) = false := by simpa using c5
      have c5b9 : (a0_0.toList.isEmpty && (!a0_1 && (a0_2 == 1))) = false := by rw [← c5b0]; cases a0_0.toList <;> rfl
      have c5b9 : (a0_0.toList.isEmpty && (!a0_1 && (a0_2 == 1))) = false := by rw [← c5b0]; cases a0_0.toList <;> rfl
      (try (have c5b1 : decide (a0_0.toList = ([] : List UInt8) && (!a0_1 && (a0_2 == 1))) = false := by simpa using c5))
      (try (have c5b2 : (a0_0.toList == ([] : List UInt8) && (!a0_1 && (a0_2 == 1))) = false := by simpa using c5))
      (try (have c5b3 : ¬ (a0_0.toList = ([] : List UInt8) && (!a0_1 && (a0_2 == 1))) := by simpa using c5))
      clear c5
      by_cases c8 : a0_2 = 0
      · rw [if_pos c8] at H
        have c8b0 : (a0_2 == 0) = true := beq_iff_eq.mpr c8
        have c8b1 : (a0_2 != 0) = false := bne_eq_false_iff_eq.mpr c8
        clear c8
        by_cases c9 : a0_1 = true
        · subst c9
          have H1 : (if 1 + a0_0.size ≤ 9223372036854775807 then (some ((⟨#[40]⟩ : ByteArray) ++ a0_0, 0)) else (none)) = some (r1, r2) := by rw [if_pos rfl] at H; exact H
          clear H
          have H := H1
          clear H1
          by_cases c10 : 1 + a0_0.size ≤ 9223372036854775807
          · rw [if_pos c10] at H
            have c10b0 := eq_true c10
            have c10b1 : decide (1 + a0_0.size ≤ 9223372036854775807) = true := decide_eq_true c10
            try have c10b2 : (9223372036854775807 < 1 + a0_0.size) = False := eq_false (Nat.not_lt.2 c10)
            simp only [Option.some.injEq, Prod.mk.injEq] at H
            obtain ⟨rfl, rfl⟩ := H
            go_enter Tryd.func11, Tryd.ntmps11
            go_wp2_with (first | ((with_reducible refine gate_dst (N := 1) rfl ?_); refine box_event ?hg (N := 1) ?hd (cs := #[.string a0_0, .bool true, .int .i64 a0_2]) (t := 33) ?hr ?_; (case hd => rfl); (case hg => rfl); (case hr => first | (go_simp; done) | (go_simp; rfl)); intro gb164 hg w11 hbox hb; have n0_ := Aside0.mk (below_step (by repeat (first | (with_reducible first | exact HB.out | apply below_alloc | apply pw_below_drewN | apply below_drew1) | exact HB.out)) hb); have n1_ := Aside0.mk (hbox); have n2_ := Aside0.mk ((by rw [hg]; exact (below_size (by repeat (first | (with_reducible first | exact HB.out | apply below_alloc | apply pw_below_drewN | apply below_drew1) | exact HB.out))) : w.heap.size ≤ gb164)); have n3_ := Aside0.mk ((by rw [hg]; exact (below_size (by repeat (first | (with_reducible first | exact HB.out | apply below_alloc | apply pw_below_drewN | apply below_drew1) | exact HB.out))) : w.heap.size ≤ gb164)); clear HB; have HB := n0_; have BK164 := n1_; have GW164 := n2_; have GE164 := n3_; clear n0_ n1_ n2_ n3_; clear hb hbox hg; have hcz12_0 : w11.cell? ⟨gb164, 0, none⟩ = some (.string a0_0) := (blk_cell BK164.out 0).trans rfl; have hcz12_1 : w11.cell? ⟨gb164, 1, none⟩ = some (.bool true) := (blk_cell BK164.out 1).trans rfl; have hcz12_2 : w11.cell? ⟨gb164, 2, none⟩ = some (.int .i64 a0_2) := (blk_cell BK164.out 2).trans rfl; have hfz12_0 := blk_frozen BK164.out 0; have hfz12_1 := blk_frozen BK164.out 1; have hfz12_2 := blk_frozen BK164.out 2))
            go_ret2
            exact ⟨by first | rfl | (simp [errW_none, errW_some] <;> rfl) | (simp [*, errW_none, errW_some] <;> rfl), by repeat (first | (with_reducible first | exact HB.out | apply below_alloc | apply pw_below_drewN | apply below_drew1 | refine below_set ?_ GE164.out) | exact HB.out)⟩
          · rw [if_neg c10] at H
            exact absurd H (by simp)
        · replace c9 := Bool.eq_false_iff.mpr c9
          subst c9
          try (have c2b8 := c2b9; simp only [Bool.not_false, Bool.true_and] at c2b8)
          try (have c5b8 := c5b9; simp only [Bool.not_false, Bool.true_and] at c5b8)
          try (have c2b8 := c2b9; simp only [Bool.not_false, Bool.true_and] at c2b8)
          try (have c5b8 := c5b9; simp only [Bool.not_false, Bool.true_and] at c5b8)
          have H1 : (if 1 + a0_0.size ≤ 9223372036854775807 then (some ((⟨#[91]⟩ : ByteArray) ++ a0_0, 0)) else (none)) = some (r1, r2) := by rw [if_neg (show ¬ (false = true) by decide)] at H; exact H
          clear H
          have H := H1
          clear H1
          by_cases c13 : 1 + a0_0.size ≤ 9223372036854775807
          · rw [if_pos c13] at H
            have c13b0 := eq_true c13
            have c13b1 : decide (1 + a0_0.size ≤ 9223372036854775807) = true := decide_eq_true c13
            try have c13b2 : (9223372036854775807 < 1 + a0_0.size) = False := eq_false (Nat.not_lt.2 c13)
            simp only [Option.some.injEq, Prod.mk.injEq] at H
            obtain ⟨rfl, rfl⟩ := H
            go_enter Tryd.func11, Tryd.ntmps11
            go_wp2_with (first | ((with_reducible refine gate_dst (N := 1) rfl ?_); refine box_event ?hg (N := 1) ?hd (cs := #[.string a0_0, .bool false, .int .i64 a0_2]) (t := 33) ?hr ?_; (case hd => rfl); (case hg => rfl); (case hr => first | (go_simp; done) | (go_simp; rfl)); intro gb164 hg w14 hbox hb; have n0_ := Aside0.mk (below_step (by repeat (first | (with_reducible first | exact HB.out | apply below_alloc | apply pw_below_drewN | apply below_drew1) | exact HB.out)) hb); have n1_ := Aside0.mk (hbox); have n2_ := Aside0.mk ((by rw [hg]; exact (below_size (by repeat (first | (with_reducible first | exact HB.out | apply below_alloc | apply pw_below_drewN | apply below_drew1) | exact HB.out))) : w.heap.size ≤ gb164)); have n3_ := Aside0.mk ((by rw [hg]; exact (below_size (by repeat (first | (with_reducible first | exact HB.out | apply below_alloc | apply pw_below_drewN | apply below_drew1) | exact HB.out))) : w.heap.size ≤ gb164)); clear HB; have HB := n0_; have BK164 := n1_; have GW164 := n2_; have GE164 := n3_; clear n0_ n1_ n2_ n3_; clear hb hbox hg; have hcz15_0 : w14.cell? ⟨gb164, 0, none⟩ = some (.string a0_0) := (blk_cell BK164.out 0).trans rfl; have hcz15_1 : w14.cell? ⟨gb164, 1, none⟩ = some (.bool false) := (blk_cell BK164.out 1).trans rfl; have hcz15_2 : w14.cell? ⟨gb164, 2, none⟩ = some (.int .i64 a0_2) := (blk_cell BK164.out 2).trans rfl; have hfz15_0 := blk_frozen BK164.out 0; have hfz15_1 := blk_frozen BK164.out 1; have hfz15_2 := blk_frozen BK164.out 2))
            go_ret2
            exact ⟨by first | rfl | (simp [errW_none, errW_some] <;> rfl) | (simp [*, errW_none, errW_some] <;> rfl), by repeat (first | (with_reducible first | exact HB.out | apply below_alloc | apply pw_below_drewN | apply below_drew1 | refine below_set ?_ GE164.out) | exact HB.out)⟩
          · rw [if_neg c13] at H
            exact absurd H (by simp)
      · rw [if_neg c8] at H
        have c8b0 : (a0_2 == 0) = false := beq_eq_false_iff_ne.mpr c8
        have c8b1 : (a0_2 != 0) = true := bne_iff_ne.mpr c8
        simp only [Option.some.injEq, Prod.mk.injEq] at H
        obtain ⟨rfl, rfl⟩ := H
        go_enter Tryd.func11, Tryd.ntmps11
        go_wp2_with (first | ((with_reducible refine gate_dst (N := 1) rfl ?_); refine box_event ?hg (N := 1) ?hd (cs := #[.string a0_0, .bool a0_1, .int .i64 a0_2]) (t := 33) ?hr ?_; (case hd => rfl); (case hg => rfl); (case hr => first | (go_simp; done) | (go_simp; rfl)); intro gb164 hg w16 hbox hb; have n0_ := Aside0.mk (below_step (by repeat (first | (with_reducible first | exact HB.out | apply below_alloc | apply pw_below_drewN | apply below_drew1) | exact HB.out)) hb); have n1_ := Aside0.mk (hbox); have n2_ := Aside0.mk ((by rw [hg]; exact (below_size (by repeat (first | (with_reducible first | exact HB.out | apply below_alloc | apply pw_below_drewN | apply below_drew1) | exact HB.out))) : w.heap.size ≤ gb164)); have n3_ := Aside0.mk ((by rw [hg]; exact (below_size (by repeat (first | (with_reducible first | exact HB.out | apply below_alloc | apply pw_below_drewN | apply below_drew1) | exact HB.out))) : w.heap.size ≤ gb164)); clear HB; have HB := n0_; have BK164 := n1_; have GW164 := n2_; have GE164 := n3_; clear n0_ n1_ n2_ n3_; clear hb hbox hg; have hcz17_0 : w16.cell? ⟨gb164, 0, none⟩ = some (.string a0_0) := (blk_cell BK164.out 0).trans rfl; have hcz17_1 : w16.cell? ⟨gb164, 1, none⟩ = some (.bool a0_1) := (blk_cell BK164.out 1).trans rfl; have hcz17_2 : w16.cell? ⟨gb164, 2, none⟩ = some (.int .i64 a0_2) := (blk_cell BK164.out 2).trans rfl; have hfz17_0 := blk_frozen BK164.out 0; have hfz17_1 := blk_frozen BK164.out 1; have hfz17_2 := blk_frozen BK164.out 2))
        go_ret2
        exact ⟨by first | rfl | (simp [errW_none, errW_some] <;> rfl) | (simp [*, errW_none, errW_some] <;> rfl), by repeat (first | (with_reducible first | exact HB.out | apply below_alloc | apply pw_below_drewN | apply below_drew1 | refine below_set ?_ GE164.out) | exact HB.out)⟩

end Go.Proofs.YtnglofnelmojnaaDoor.P
