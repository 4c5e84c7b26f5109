/- Each theorem <function>.calls: a call of the Go function comes to the answer of the Lean function <function>.f. Conditions: that the Lean function has an answer; each theorem names its own. -/
import Derived.Test.YtmejbponpkkobaaPx0
import Derived.Test.YtmejbponpkkobaaPH0
namespace Go.Proofs.Ytmejbponpkkobaa.P
open Go.RowKit Go.Proofs.YtmejbponpkkobaaW.PrintWords Go.Proofs.YtmejbponpkkobaaW.PrintLast Go.Proofs.YtmejbponpkkobaaW.PrintMore
attribute [local go_sem] max2_int min2_int max_two min_two max_three min_three max_four min_four   -- for this text's walks alone
set_option linter.unusedVariables false
set_option linter.unusedSimpArgs false

/-! ### glob_within: function 31 -/
mutual
def glob_within.j0 : Nat → List Int → Bool → Option ((List (S67)) × Bool)
  | 0, _, _ => none
  | k + 1, x0, x108001 => glob_within.l0 k x0 ([] : List (S67)) x108001
def glob_within.l0 : Nat → List Int → List (S67) → Bool → Option ((List (S67)) × Bool)
  | 0, _, _, _ => none
  | k + 1, x0, x108000, x108001 => if (x0.length : Int) > 0 then (if 0 < (x0.length : Int) then (if (x0.length : Int) > 2 then (if 1 < (x0.length : Int) then (if (rd x0 1) = 45 then (if 2 < (x0.length : Int) then (if x108000.length < 17592186044416 then (if 3 ≤ (x0.length : Int) then (glob_within.l0 k (x0.drop 3) (x108000 ++ [(⟨mn (rd x0 0) (rd x0 2), mx (rd x0 0) (rd x0 2)⟩ : S67)]) x108001) else (none)) else (none)) else (none)) else (if x108000.length < 17592186044416 then (if 1 ≤ (x0.length : Int) then (glob_within.l0 k (x0.drop 1) (x108000 ++ [(⟨rd x0 0, rd x0 0⟩ : S67)]) x108001) else (none)) else (none))) else (none)) else (if x108000.length < 17592186044416 then (if 1 ≤ (x0.length : Int) then (glob_within.l0 k (x0.drop 1) (x108000 ++ [(⟨rd x0 0, rd x0 0⟩ : S67)]) x108001) else (none)) else (none))) else (none)) else (some (x108000, x108001))
end
def glob_within.f (k : Nat) (l0 : List Int) : Option ((List (S67)) × Bool) := if 0 < (l0.length : Int) then (if (rd l0 0) = 94 then (if 1 ≤ (l0.length : Int) then (glob_within.j0 k (l0.drop 1) true) else (none)) else (glob_within.j0 k l0 false)) else (none)
theorem glob_within.mono_l : ∀ k, (∀ y0 y1, LeO (glob_within.j0 k y0 y1) (glob_within.j0 (k + 1) y0 y1)) ∧ (∀ y0 y1 y2, LeO (glob_within.l0 k y0 y1 y2) (glob_within.l0 (k + 1) y0 y1 y2))
  | 0 => ⟨fun _ _ r h => by simp [glob_within.j0] at h, fun _ _ _ r h => by simp [glob_within.l0] at h⟩
  | k + 1 => by
    obtain ⟨ih0, ih1⟩ := glob_within.mono_l k
    refine ⟨?_, ?_⟩
    · intro y0 y1
      unfold glob_within.j0
      repeat' first
      | (with_reducible exact ih0 _ _)
      | (with_reducible exact ih1 _ _ _)
      | (with_reducible exact LeO.refl _)
      | (with_reducible exact LeO.none _)
      | (with_reducible refine LeO.ite ?_ ?_)
      | (with_reducible refine LeO.bind ?_ (fun _ => ?_))
      | exact ih0 _ _
      | exact ih1 _ _ _
      | exact LeO.none _
      | refine LeO.ite ?_ ?_
      | refine LeO.bind ?_ (fun _ => ?_)
    · intro y0 y1 y2
      unfold glob_within.l0
      repeat' first
      | (with_reducible exact ih0 _ _)
      | (with_reducible exact ih1 _ _ _)
      | (with_reducible exact LeO.refl _)
      | (with_reducible exact LeO.none _)
      | (with_reducible refine LeO.ite ?_ ?_)
      | (with_reducible refine LeO.bind ?_ (fun _ => ?_))
      | exact ih0 _ _
      | exact ih1 _ _ _
      | exact LeO.none _
      | refine LeO.ite ?_ ?_
      | refine LeO.bind ?_ (fun _ => ?_)
theorem glob_within.mono : ∀ a0 k, LeO (glob_within.f k a0) (glob_within.f (k + 1) a0) := by
  intro a0 k
  obtain ⟨ih0, ih1⟩ := glob_within.mono_l k
  unfold glob_within.f
  repeat' first
      | (with_reducible exact ih0 _ _)
      | (with_reducible exact ih1 _ _ _)
      | (with_reducible exact LeO.refl _)
      | (with_reducible exact LeO.none _)
      | (with_reducible refine LeO.ite ?_ ?_)
      | (with_reducible refine LeO.bind ?_ (fun _ => ?_))
      | exact ih0 _ _
      | exact ih1 _ _ _
      | exact LeO.none _
      | refine LeO.ite ?_ ?_
      | refine LeO.bind ?_ (fun _ => ?_)
def glob_within.T5 : Bool × List (List Nat × List Nat) := (true, [([], []), ([0], [0]), ([1], [1]), ([], []), ([3], [3]), ([4], [4]), ([2, 5], [2, 5]), ([], []), ([7, 6, 0, 1, 2, 3, 4, 5, 6, 7], [6, 7]), ([8, 0, 1, 2, 3, 4, 5, 6, 7, 8], [])])
def glob_within.B5 : List Nat := [0, 1, 3, 0, 8, 24, 63, 0, 255, 511]
theorem glob_within.tab5 : rtab .any (opsOf Try.f31 5) = glob_within.T5 := by kernel_rfl
theorem glob_within.bits5 : waitsOk glob_within.T5.2 glob_within.B5 = true := by kernel_rfl
def glob_within.T7 : Bool × List (List Nat × List Nat) := (true, [([], []), ([0], [0]), ([1], [1]), ([], []), ([3], [3]), ([4], [4]), ([2, 5], [2, 5]), ([], []), ([7], [7]), ([8], [8]), ([], []), ([10], [10]), ([11], [11]), ([9, 12], [9, 12]), ([6, 13], [6, 13]), ([14, 0, 1, 2, 3, 4, 5, 6, 7, 8, 9, 10, 11, 12, 13, 14], [14]), ([15, 0, 1, 2, 3, 4, 5, 6, 7, 8, 9, 10, 11, 12, 13, 14, 15], [])])
def glob_within.B7 : List Nat := [0, 1, 3, 0, 8, 24, 63, 0, 128, 384, 0, 1024, 3072, 8064, 16383, 32767, 65535]
theorem glob_within.tab7 : rtab .any (opsOf Try.f31 7) = glob_within.T7 := by kernel_rfl
theorem glob_within.bits7 : waitsOk glob_within.T7.2 glob_within.B7 = true := by kernel_rfl
def glob_within.T8 : Bool × List (List Nat × List Nat) := (true, [([], []), ([0], [0]), ([], []), ([2], [2]), ([1, 3], [1, 3]), ([], []), ([], []), ([5, 6], [5, 6]), ([0, 1, 2, 3, 4], []), ([8, 4, 4, 0, 1, 2, 3, 4], [4, 8]), ([7, 9, 0, 1, 2, 3, 4, 5, 6, 7, 8, 9], [5, 7])])
def glob_within.B8 : List Nat := [0, 1, 0, 4, 15, 0, 0, 96, 31, 287, 1023]
theorem glob_within.tab8 : rtab .any (opsOf Try.f31 8) = glob_within.T8 := by kernel_rfl
theorem glob_within.bits8 : waitsOk glob_within.T8.2 glob_within.B8 = true := by kernel_rfl
set_option maxHeartbeats 8000000 in
set_option maxRecDepth 100000 in
theorem glob_within.calls (k : Nat) (P0_ : Nat → Prop) (A0 : Option Addr) (c0 : Nat) (l0 : List Int) (r1 : List (S67)) (r2 : Bool) (w : World) (hs0 : Kd.V (Kd.int .i32) 21 w w.heap.size (fun k_ => P0_ k_) (.slice A0 l0.length c0) l0) (h : glob_within.f k l0 = some (r1, r2)) :
    Calls Try.prog 31 #[.slice A0 l0.length c0] w fun e w' => ∃ v0_ : Value, e = .returned (.agg #[v0_, .bool r2]) ∧ Kd.R k67 67 w' w.heap.size (fun k_ => (w.heap.size ≤ k_)) v0_ r1 ∧ Below w.heap.size w w' := by
  have hu57 := Try.underlying57
  have hu67 := Try.underlying67
  have HO0 := Aside0.mk (show Kd.V (Kd.int .i32) 21 w w.heap.size (fun k_ => (P0_ k_ ∨ w.heap.size ≤ k_)) (.slice A0 l0.length c0) l0 from Kd.V_mono hs0 (fun k_ hk => .inl hk))
  have HB := Aside0.mk (Below.refl w.heap.size w)
  have H : (if 0 < (l0.length : Int) then (if (rd l0 0) = 94 then (if 1 ≤ (l0.length : Int) then (glob_within.j0 k (l0.drop 1) true) else (none)) else (glob_within.j0 k l0 false)) else (none)) = some (r1, r2) := h
  clear h
  by_cases c2 : 0 < (l0.length : Int)
  · rw [if_pos c2] at H
    have c2b0 : decide (0 < (l0.length : Int)) = true := decide_eq_true c2
    have c2b1 : decide (0 < l0.length) = true := decide_eq_true (by omega)
    clear c2
    have HC3 := Aside0.mk H
    clear H
    go_enter Try.func31, Try.ntmps31
    go_upto_if 9 with (first | ((with_reducible refine gate_dst (N := 2) rfl ?_); refine box_event ?hg (N := 2) ?hd (cs := #[.slice none 0 0, .bool false]) (t := 57) ?hr ?_; (case hd => rfl); (case hg => rfl); (case hr => first | (go_simp; done) | (go_simp; rfl)); intro gb106 hg w4 hbox hb; have n0_ := Aside0.mk (Kd.V_below (Kd.V_elderB (by (with_reducible repeat (first | apply Kd.V_alloc | apply Kd.V_drewN | apply Kd.V_drew)); exact HO0.out) gb106 (Nat.le_of_eq hg.symm)) hb); have n1_ := Aside0.mk (below_step (by repeat (first | (with_reducible first | exact HB.out | apply below_alloc | apply pw_below_drewN | apply below_drew1) | exact HB.out)) hb); have n2_ := Aside0.mk (hbox); have n3_ := Aside0.mk ((by rw [hg]; exact (below_size (by repeat (first | (with_reducible first | exact HB.out | apply below_alloc | apply pw_below_drewN | apply below_drew1) | exact HB.out))) : w.heap.size ≤ gb106)); have n4_ := Aside0.mk ((by rw [hg]; exact (below_size (by repeat (first | (with_reducible first | exact HB.out | apply below_alloc | apply pw_below_drewN | apply below_drew1) | exact HB.out))) : w.heap.size ≤ gb106)); clear HO0; clear HB; have HO0 := n0_; have HB := n1_; have BK106 := n2_; have GW106 := n3_; have GE106 := n4_; clear n0_ n1_ n2_ n3_ n4_; clear hb hbox hg) | ((with_reducible refine gate_dst (N := 3) rfl ?_); refine box_event ?hg (N := 3) ?hd (cs := #[.slice none 0 0, .bool false]) (t := 57) ?hr ?_; (case hd => rfl); (case hg => rfl); (case hr => first | (go_simp; done) | (go_simp; rfl)); intro gb107 hg w5 hbox hb; have n0_ := Aside0.mk (Kd.V_below (Kd.V_elderB (by (with_reducible repeat (first | apply Kd.V_alloc | apply Kd.V_drewN | apply Kd.V_drew)); exact HO0.out) gb107 (Nat.le_of_eq hg.symm)) hb); have n1_ := Aside0.mk (blk_below (g := gb106) (o := .cells #[.slice none 0 0, .bool false] 57 (0, 0)) (by (with_reducible repeat (first | refine blk_drewN ?_ _ | refine blk_drew ?_ | refine blk_alloc ?_ _)); exact BK106.out) hb); have n2_ := Aside0.mk (below_step (by repeat (first | (with_reducible first | exact HB.out | apply below_alloc | apply pw_below_drewN | apply below_drew1 | refine below_set ?_ GE106.out) | exact HB.out)) hb); have n3_ := Aside0.mk (hbox); have n4_ := Aside0.mk ((by rw [hg]; exact (below_size (by repeat (first | (with_reducible first | exact HB.out | apply below_alloc | apply pw_below_drewN | apply below_drew1 | refine below_set ?_ GE106.out) | exact HB.out))) : w.heap.size ≤ gb107)); have n5_ := Aside0.mk ((by rw [hg]; exact (below_size (by repeat (first | (with_reducible first | exact HB.out | apply below_alloc | apply pw_below_drewN | apply below_drew1 | refine below_set ?_ GE106.out) | exact HB.out))) : w.heap.size ≤ gb107)); have n6_ := Aside0.mk ((by rw [hg]; exact Nat.ne_of_lt (blk_lt (g := gb106) (o := .cells #[.slice none 0 0, .bool false] 57 (0, 0)) (by (with_reducible repeat (first | refine blk_drewN ?_ _ | refine blk_drew ?_ | refine blk_alloc ?_ _)); exact BK106.out)) : gb106 ≠ gb107)); have n7_ := Aside0.mk ((by rw [hg]; exact Nat.ne_of_gt (blk_lt (g := gb106) (o := .cells #[.slice none 0 0, .bool false] 57 (0, 0)) (by (with_reducible repeat (first | refine blk_drewN ?_ _ | refine blk_drew ?_ | refine blk_alloc ?_ _)); exact BK106.out)) : gb107 ≠ gb106)); clear HO0; clear BK106; clear HB; have HO0 := n0_; have BK106 := n1_; have HB := n2_; have BK107 := n3_; have GW107 := n4_; have GE107 := n5_; have NB106_107 := n6_; have NB107_106 := n7_; clear n0_ n1_ n2_ n3_ n4_ n5_ n6_ n7_; clear hb hbox hg; have p108 : 0 ≤ (0 : Int) := (by omega); have q108 : 0 < (l0.length : Int) := of_decide_eq_true (by first | (with_reducible assumption) | assumption); obtain ⟨ad108, e108, hx108_0⟩ := Kd.at_int (Kd.V_reads' HO0.out).2.2 0 p108 q108; cases e108; have qi108 : (0 < l0.length) = True := eq_true (by omega); (try rw [show ((0 : Int)).toNat = 0 from rfl] at hx108_0); (try rw [Addr.add_zero'] at hx108_0); replace p108 := eq_true p108; replace q108 := eq_true q108))
    (try simp only [Act.put, List.setIfInBounds_toArray, List.set_cons_zero, List.set_cons_succ])
    go_cut [0] (fun v0 wc => ∃ (kq : Nat) (x0_2 : List Int) (x108001_2 : Bool), Aside0 (glob_within.j0 kq x0_2 x108001_2 = some (r1, r2)) ∧ Aside0 (kq ≤ k) ∧ Aside0 (Kd.V (Kd.int .i32) 21 wc w.heap.size (fun k_ => (P0_ k_ ∨ w.heap.size ≤ k_) ∧ k_ ≠ gb106 ∧ k_ ≠ gb107) v0 x0_2) ∧ Aside0 (wc.heap[gb106]? = some (.cells #[(.slice none 0 0), .bool false] 57 (0, 0))) ∧ Aside0 (wc.heap[gb107]? = some (.cells #[(.slice none 0 0), .bool x108001_2] 57 (0, 0))) ∧ Aside0 (Below w.heap.size w wc))
    case first =>
      have H := HC3.out
      clear HC3
      by_cases c6 : (rd l0 0) = 94
      · rw [if_pos c6] at H
        have c6b0 : ((rd l0 0) == 94) = true := beq_iff_eq.mpr c6
        have c6b1 : ((rd l0 0) != 94) = false := bne_eq_false_iff_eq.mpr c6
        clear c6
        (first | rw [c6b0] | (simp only [i64_w, i32_w]; rw [c6b0]) | skip)
        by_cases c7 : 1 ≤ (l0.length : Int)
        · rw [if_pos c7] at H
          have c7b0 := eq_true c7
          have c7b1 : decide (1 ≤ (l0.length : Int)) = true := decide_eq_true c7
          clear c7
          obtain ⟨y109, hy109⟩ : ∃ y_ : List Int, y_ = (l0.drop 1) := ⟨_, rfl⟩
          replace H : (glob_within.j0 k y109 true) = some (r1, r2) := by first | (rw [hy109]; with_reducible exact H) | (have H2_ := (Option.bind_some _ _).symm.trans H; rw [hy109]; with_reducible exact H2_) | (have H2_ := (Option.bind_some _ _).symm.trans H; with_reducible exact H2_) | with_reducible exact H | (rw [hy109]; exact H) | exact H
          have Ny109 := Aside0.mk hy109
          clear hy109
          have H' := Aside0.mk H
          clear H
          try go_wp2
          have n0_ := Aside0.mk (Kd.V_drew HO0.out)
          have n1_ := Aside0.mk (blk_drew BK106.out)
          have n2_ := Aside0.mk (blk_drew BK107.out)
          have n3_ := Aside0.mk (below_drew1 HB.out)
          clear HO0
          clear BK106
          clear BK107
          clear HB
          have HO0 := n0_
          have BK106 := n1_
          have BK107 := n2_
          have HB := n3_
          clear n0_ n1_ n2_ n3_
          have q9 : (1 : Int) ≤ ((l0.length : Int) : Int) := of_decide_eq_true (by first | (with_reducible assumption) | assumption)
          obtain ⟨i09, hi09, _, hsz9, _⟩ := info_parts info21
          have hroom9 : l0.length ≤ c0 := (Kd.V_reads' HO0.out).2.1
          have hC9 : Kd.F (Kd.int .i32) _ _ (some ad108) l0.length l0 := (Kd.V_at (base := w.heap.size) HO0.out).2.2
          have hcut9 := cut_from (P := Try.prog) 31 21 .i64 Try.underlying31 hi09 1 hsz9 (some ad108) l0.length c0 1 (by omega) q9
          have hr9 := Kd.F_cut (m := (1 : Int).toNat) (c := c0) hC9 (by omega) hroom9
          obtain ⟨A9, hA9⟩ : ∃ A1, A1 = (if c0 = (1 : Int).toNat then (some ad108) else ((some ad108) : Option Addr).map (·.add ((1 : Int).toNat * 1))) := ⟨_, rfl⟩
          obtain ⟨c9, hc9⟩ : ∃ c1, c1 = c0 - (1 : Int).toNat := ⟨_, rfl⟩
          have hy9 : y109.length = l0.length - (1 : Int).toNat := (by rw [Ny109.out, List.length_drop] <;> omega)
          rw [show (l0).drop (1 : Int).toNat = y109 from Ny109.out.symm] at hr9
          replace hr9 : Kd.F (Kd.int .i32) _ _ A9 y109.length y109 := (by rw [hA9]; exact hr9)
          rw [← hy9, ← hA9, ← hc9] at hcut9
          have HO113 := Aside0.mk (show Kd.V (Kd.int .i32) 21 _ w.heap.size _ (.slice A9 y109.length c9) y109 from Kd.V_mk (by rw [hy9, hc9]; exact Nat.sub_le_sub_right hroom9 _) hr9)
          have HC113 := Aside0.mk (show y109.length ≤ c9 from by rw [hy9, hc9]; exact Nat.sub_le_sub_right hroom9 _)
          clear hr9 hC9 hroom9 hi09 hsz9 hc9
          have KY9 := Aside0.mk hy9
          have KA9 := Aside0.mk hA9
          clear hy9 hA9
          replace q9 := eq_true q9
          refine start_ (n := 5) (S := fun w' => True) (ds := []) #[false, false, false, false, false] (by kernel_rfl) rfl rfl trivial (fun hHeld => ?_)
          generalize w5.drew = w8 at HO0 BK106 BK107 HB HO113 hHeld ⊢
          refine pure_ (i := 0) (N := some 10) (v := ?_) (a' := ?_) #[true, false, false, false, false] rfl rfl (by kernel_rfl) (fun _ _ _ h => h) (Or.inl ⟨by rfl, ?_⟩) ?_ ?_
          rotate_left
          · intro w'
            go_simp
            with_reducible rfl
          rotate_left
          · simp only [Act.put, List.setIfInBounds_toArray, List.set_cons_zero, List.set_cons_succ, i64_w, i32_w]
            rfl
          refine pure_ (i := 1) (N := some 11) (v := ?_) (a' := ?_) #[true, true, false, false, false] rfl rfl (by kernel_rfl) (fun _ _ _ h => h) (Or.inl ⟨by rfl, ?_⟩) ?_ ?_
          rotate_left
          · intro w'
            go_simp
            with_reducible rfl
          rotate_left
          · simp only [Act.put, List.setIfInBounds_toArray, List.set_cons_zero, List.set_cons_succ, i64_w, i32_w]
            rfl
          refine pure_ (i := 2) (N := some 12) (v := ?_) (a' := ?_) #[true, true, true, false, false] rfl rfl (by kernel_rfl) (fun _ _ _ h => h) (Or.inl ⟨by rfl, ?_⟩) ?_ ?_
          rotate_left
          · intro w'
            go_simp
            with_reducible rfl
          rotate_left
          · simp only [Act.put, List.setIfInBounds_toArray, List.set_cons_zero, List.set_cons_succ, i64_w, i32_w]
            rfl
          refine one_ (i := 3) (N := none) #[true, true, true, true, false] rfl rfl (by kernel_rfl) (by decide) (fun K hK => ?_)
          have hs10 : w8.cell? ⟨gb107, 1, none⟩ = some (.bool false) := (blk_cell BK107.out 1).trans rfl
          have hfs10 := blk_frozen BK107.out 1
          have hns10_0 := NB106_107.out
          have hms10_0 := NB107_106.out
          refine skip_ (w1 := ?_) (by rfl) rfl ?_ ?_
          rotate_left
          · go_simp
            rfl
          refine hK.out _ _ trivial (fun hHeld => ?_)
          clear hK K
          refine pure_ (i := 4) (N := some 0) (v := ?_) (a' := ?_) #[true, true, true, true, true] rfl rfl (by kernel_rfl) (fun _ _ _ h => h) (Or.inl ⟨by rfl, ?_⟩) ?_ ?_
          rotate_left
          · intro w'
            go_simp
            with_reducible rfl
          rotate_left
          · simp only [Act.put, List.setIfInBounds_toArray, List.set_cons_zero, List.set_cons_succ, i64_w, i32_w]
            rfl
          refine done_ (by kernel_rfl) ?_
          try go_wp2
          go_meet
          case rel => exact ⟨_, (y109), (true), H', ⟨by first | omega | exact Nat.le_refl _⟩, ⟨by (with_reducible repeat (first | apply Kd.V_alloc | apply Kd.V_drewN | apply Kd.V_drew)); exact Kd.V_mono (Kd.V_far (p := ⟨gb107, 1, none⟩) (Kd.V_mono HO113.out (fun k_ hk => (⟨hk, hk.2⟩ : _ ∧ k_ ≠ gb107))) (fun _ hk => hk.2) (.bool true)) (fun _ hk => ⟨hk.1.1.1, ⟨hk.1.1.2, hk.1.2⟩⟩)⟩, ⟨by (with_reducible repeat (first | refine blk_drewN ?_ _ | refine blk_drew ?_ | refine blk_alloc ?_ _)); refine blk_far ?_ NB106_107.out _; (with_reducible repeat (first | refine blk_drewN ?_ _ | refine blk_drew ?_ | refine blk_alloc ?_ _)); exact BK106.out⟩, ⟨by (with_reducible repeat (first | refine blk_drewN ?_ _ | refine blk_drew ?_ | refine blk_alloc ?_ _)); refine blk_put (cs := #[.slice none 0 0, .bool false]) ?_ 1 _ rfl; (with_reducible repeat (first | refine blk_drewN ?_ _ | refine blk_drew ?_ | refine blk_alloc ?_ _)); exact BK107.out⟩, ⟨by repeat (first | (with_reducible first | exact HB.out | apply below_alloc | apply pw_below_drewN | apply below_drew1 | refine below_set ?_ GE106.out | refine below_set ?_ GE107.out) | exact HB.out)⟩⟩
        · rw [if_neg c7] at H
          exact absurd H (by simp)
      · rw [if_neg c6] at H
        have c6b0 : ((rd l0 0) == 94) = false := beq_eq_false_iff_ne.mpr c6
        have c6b1 : ((rd l0 0) != 94) = true := bne_iff_ne.mpr c6
        (first | rw [c6b0] | (simp only [i64_w, i32_w]; rw [c6b0]) | skip)
        have H' := Aside0.mk H
        clear H
        go_wp2
        go_meet
        case rel => exact ⟨_, (l0), (false), H', ⟨by first | omega | exact Nat.le_refl _⟩, ⟨by (with_reducible repeat (first | apply Kd.V_alloc | apply Kd.V_drewN | apply Kd.V_drew)); exact Kd.V_mono HO0.out (fun _ hk => ⟨hk.1.1, ⟨hk.1.2, hk.2⟩⟩)⟩, ⟨by (with_reducible repeat (first | refine blk_drewN ?_ _ | refine blk_drew ?_ | refine blk_alloc ?_ _)); exact BK106.out⟩, ⟨by (with_reducible repeat (first | refine blk_drewN ?_ _ | refine blk_drew ?_ | refine blk_alloc ?_ _)); exact BK107.out⟩, ⟨by repeat (first | (with_reducible first | exact HB.out | apply below_alloc | apply pw_below_drewN | apply below_drew1 | refine below_set ?_ GE106.out | refine below_set ?_ GE107.out) | exact HB.out)⟩⟩
    case rest =>
      clear HC3
      try clear c1
      try clear p1
      try clear q1
      try clear hx1
      try clear qi1
      try clear c2
      try clear c2b0
      try clear c2b1
      try clear p2
      try clear c3
      try clear c6
      try clear c6b0
      try clear c6b1
      try clear c7
      try clear c7b0
      try clear c7b1
      try clear c9
      try clear q9
      try clear p10
      try clear q10
      try clear hx10
      try clear qi10
      try clear hx108_0
      try clear p108
      try clear q108
      try clear q9
      obtain ⟨kq, x0_2, x108001_2, HA, HJ2, HO_0, BK106, BK107, HB⟩ := hcut
      cases kq with
      | zero => exact absurd HA.out (by simp [glob_within.j0])
      | succ kj2 =>
        have H := HA.out
        clear HA
        simp only [glob_within.j0] at H
        have H' := Aside0.mk H
        clear H
        go_wp2
        go_loopg [0] kj2 (fun kq v0 w' => ∃ (x0_2 : List Int) (x108000_2 : List (S67)) (u108000 : Value), Aside0 (glob_within.l0 kq x0_2 x108000_2 x108001_2 = some (r1, r2)) ∧ Aside0 (kq ≤ kj2) ∧ Aside0 (Kd.V (Kd.int .i32) 21 w' w.heap.size (fun k_ => (P0_ k_ ∨ w.heap.size ≤ k_) ∧ some k_ ≠ (u108000 : Value).ownBlock ∧ k_ ≠ gb106 ∧ k_ ≠ gb107) v0 x0_2) ∧ Aside0 (Kd.R k67 67 w' w.heap.size (fun k_ => (w.heap.size ≤ k_)) u108000 x108000_2) ∧ Aside0 (w'.heap[gb106]? = some (.cells #[(.slice none 0 0), .bool false] 57 (0, 0))) ∧ Aside0 (w'.heap[gb107]? = some (.cells #[u108000, .bool x108001_2] 57 (0, 0))) ∧ Aside0 (Below w.heap.size w w'))
        case atStart => exact ⟨(x0_2), (([] : List (S67))), (.slice none 0 0), H', ⟨Nat.le_refl _⟩, ⟨by (with_reducible repeat (first | apply Kd.V_alloc | apply Kd.V_drewN | apply Kd.V_drew)); exact Kd.V_mono HO_0.out (fun _ hk => ⟨hk.1, ⟨(by simp [Value.ownBlock]), ⟨hk.2.1, hk.2.2⟩⟩⟩)⟩, ⟨by first | exact Kd.R_nil _ _ _ _ _ | exact Kd.N_nil _ _ _ _ _ | exact Kd.V_nil _ _ _ _ _ | exact Kd.Q_nil _ _ _ _ _ | exact Kd.S_nil _ _ _ _ _⟩, ⟨by (with_reducible repeat (first | refine blk_drewN ?_ _ | refine blk_drew ?_ | refine blk_alloc ?_ _)); exact BK106.out⟩, ⟨by (with_reducible repeat (first | refine blk_drewN ?_ _ | refine blk_drew ?_ | refine blk_alloc ?_ _)); exact BK107.out⟩, ⟨by repeat (first | (with_reducible first | exact HB.out | apply below_alloc | apply pw_below_drewN | apply below_drew1 | refine below_set ?_ GE106.out | refine below_set ?_ GE107.out) | exact HB.out)⟩⟩
        case round =>
          clear H'
          try clear c1
          try clear p1
          try clear q1
          try clear hx1
          try clear qi1
          try clear c2
          try clear c2b0
          try clear c2b1
          try clear p2
          try clear c3
          try clear c6
          try clear c6b0
          try clear c6b1
          try clear c7
          try clear c7b0
          try clear c7b1
          try clear c9
          try clear q9
          try clear p10
          try clear q10
          try clear hx10
          try clear qi10
          try clear hx108_0
          try clear p1
          try clear p10
          try clear p108
          try clear p2
          try clear q1
          try clear q10
          try clear q108
          try clear q9
          obtain ⟨x0_2, x108000_2, u108000, HA, HK2, HO_0, HO_108000, BK106, BK107, HB⟩ := hrel
          cases gk with
          | zero => exact absurd HA.out (by simp [glob_within.l0])
          | succ k2 =>
            have H := HA.out
            clear HA
            simp only [glob_within.l0] at H
            by_cases c11 : (x0_2.length : Int) > 0
            · rw [if_pos c11] at H
              have c11b0 : decide (0 < (x0_2.length : Int)) = true := decide_eq_true c11
              have c11b1 : decide (0 < x0_2.length) = true := decide_eq_true (by omega)
              clear c11
              by_cases c12 : 0 < (x0_2.length : Int)
              · rw [if_pos c12] at H
                have c12b0 : decide (0 < (x0_2.length : Int)) = true := decide_eq_true c12
                have c12b1 : decide (0 < x0_2.length) = true := decide_eq_true (by omega)
                clear c12
                by_cases c13 : (x0_2.length : Int) > 2
                · rw [if_pos c13] at H
                  have c13b0 : decide (2 < (x0_2.length : Int)) = true := decide_eq_true c13
                  have c13b1 : decide (2 < x0_2.length) = true := decide_eq_true (by omega)
                  clear c13
                  by_cases c14 : 1 < (x0_2.length : Int)
                  · rw [if_pos c14] at H
                    have c14b0 : decide (1 < (x0_2.length : Int)) = true := decide_eq_true c14
                    have c14b1 : decide (1 < x0_2.length) = true := decide_eq_true (by omega)
                    clear c14
                    by_cases c15 : (rd x0_2 1) = 45
                    · rw [if_pos c15] at H
                      have c15b0 : ((rd x0_2 1) == 45) = true := beq_iff_eq.mpr c15
                      have c15b1 : ((rd x0_2 1) != 45) = false := bne_eq_false_iff_eq.mpr c15
                      clear c15
                      by_cases c16 : 2 < (x0_2.length : Int)
                      · rw [if_pos c16] at H
                        have c16b0 : decide (2 < (x0_2.length : Int)) = true := decide_eq_true c16
                        have c16b1 : decide (2 < x0_2.length) = true := decide_eq_true (by omega)
                        clear c16
                        obtain ⟨ji17, hji17⟩ : ∃ j_ : Int, (mn (rd x0_2 0) (rd x0_2 2)) = j_ := ⟨_, rfl⟩
                        replace H : (if x108000_2.length < 17592186044416 then (if 3 ≤ (x0_2.length : Int) then (glob_within.l0 k2 (x0_2.drop 3) (x108000_2 ++ [(⟨ji17, mx (rd x0_2 0) (rd x0_2 2)⟩ : S67)]) x108001_2) else (none)) else (none)) = some (r1, r2) := by first | (rw [hji17] at H; exact H) | (simp only [hji17] at H ⊢; exact H)
                        have hji17_ : (if (rd x0_2 2) < (rd x0_2 0) then (rd x0_2 2) else (rd x0_2 0)) = ji17 := hji17
                        obtain ⟨ji18, hji18⟩ : ∃ j_ : Int, (mx (rd x0_2 0) (rd x0_2 2)) = j_ := ⟨_, rfl⟩
                        replace H : (if x108000_2.length < 17592186044416 then (if 3 ≤ (x0_2.length : Int) then (glob_within.l0 k2 (x0_2.drop 3) (x108000_2 ++ [(⟨ji17, ji18⟩ : S67)]) x108001_2) else (none)) else (none)) = some (r1, r2) := by first | (rw [hji18] at H; exact H) | (simp only [hji18] at H ⊢; exact H)
                        have hji18_ : (if (rd x0_2 0) < (rd x0_2 2) then (rd x0_2 2) else (rd x0_2 0)) = ji18 := hji18
                        by_cases c19 : x108000_2.length < 17592186044416
                        · rw [if_pos c19] at H
                          have LMc19 := Aside0.mk c19
                          clear c19
                          obtain ⟨y122, hy122⟩ : ∃ y_ : List (S67), y_ = (x108000_2 ++ [(⟨ji17, ji18⟩ : S67)]) := ⟨_, rfl⟩
                          replace H : (if 3 ≤ (x0_2.length : Int) then (glob_within.l0 k2 (x0_2.drop 3) y122 x108001_2) else (none)) = some (r1, r2) := by first | (rw [hy122]; with_reducible exact H) | (have H2_ := (Option.bind_some _ _).symm.trans H; rw [hy122]; with_reducible exact H2_) | (have H2_ := (Option.bind_some _ _).symm.trans H; with_reducible exact H2_) | with_reducible exact H | (rw [hy122]; exact H) | exact H
                          have Ny122 := Aside0.mk hy122
                          clear hy122
                          by_cases c20 : 3 ≤ (x0_2.length : Int)
                          · rw [if_pos c20] at H
                            have c20b0 := eq_true c20
                            have c20b1 : decide (3 ≤ (x0_2.length : Int)) = true := decide_eq_true c20
                            clear c20
                            obtain ⟨y125, hy125⟩ : ∃ y_ : List Int, y_ = (x0_2.drop 3) := ⟨_, rfl⟩
                            replace H : (glob_within.l0 k2 y125 y122 x108001_2) = some (r1, r2) := by first | (rw [hy125]; with_reducible exact H) | (have H2_ := (Option.bind_some _ _).symm.trans H; rw [hy125]; with_reducible exact H2_) | (have H2_ := (Option.bind_some _ _).symm.trans H; with_reducible exact H2_) | with_reducible exact H | (rw [hy125]; exact H) | exact H
                            have Ny125 := Aside0.mk hy125
                            clear hy125
                            have H' := Aside0.mk H
                            clear H
                            obtain ⟨Ao21, co21, eo21⟩ := Kd.V_slice HO_0.out
                            subst eo21
                            try go_wp2
                            have n0_ := Aside0.mk (Kd.V_drew HO_0.out)
                            have n1_ := Aside0.mk (Kd.R_drew HO_108000.out)
                            have n2_ := Aside0.mk (blk_drew BK106.out)
                            have n3_ := Aside0.mk (blk_drew BK107.out)
                            have n4_ := Aside0.mk (below_drew1 HB.out)
                            clear HO_0
                            clear HO_108000
                            clear BK106
                            clear BK107
                            clear HB
                            have HO_0 := n0_
                            have HO_108000 := n1_
                            have BK106 := n2_
                            have BK107 := n3_
                            have HB := n4_
                            clear n0_ n1_ n2_ n3_ n4_
                            have p114 : 0 ≤ (0 : Int) := (by omega)
                            have q114 : 0 < (x0_2.length : Int) := of_decide_eq_true (by first | (with_reducible assumption) | assumption)
                            obtain ⟨ad114, e114, hx114_0⟩ := Kd.at_int (Kd.V_reads' HO_0.out).2.2 0 p114 q114
                            cases e114
                            have qi114 : (0 < x0_2.length) = True := eq_true (by omega)
                            (try rw [show ((0 : Int)).toNat = 0 from rfl] at hx114_0)
                            (try rw [Addr.add_zero'] at hx114_0)
                            replace p114 := eq_true p114
                            replace q114 := eq_true q114
                            have p115 : 0 ≤ (0 : Int) := (by omega)
                            have q115 : 0 < (x0_2.length : Int) := of_decide_eq_true (by first | (with_reducible assumption) | assumption)
                            obtain ⟨ad115, e115, hx115_0⟩ := Kd.at_int (Kd.V_reads' HO_0.out).2.2 0 p115 q115
                            obtain rfl : ad114 = ad115 := (by injection e115)
                            have qi115 : (0 < x0_2.length) = True := eq_true (by omega)
                            (try rw [show ((0 : Int)).toNat = 0 from rfl] at hx115_0)
                            (try rw [Addr.add_zero'] at hx115_0)
                            replace p115 := eq_true p115
                            replace q115 := eq_true q115
                            refine start_ (n := 10) (S := fun w' => w'.cell? ad114 = some (.int .i32 (rd x0_2 0)) ∧ w'.cell? ad114 = some (.int .i32 (rd x0_2 0))) (ds := []) #[false, false, false, false, false, false, false, false, false, false] (by kernel_rfl) rfl rfl ⟨hx114_0, hx115_0⟩ (fun hHeld => ?_); refine with_tabW glob_within.tab5 glob_within.bits5 (fun HT_ HW_ => ?_)
                            generalize wr.drew = w22 at HO_0 HO_108000 BK106 BK107 HB hx114_0 hx115_0 hHeld ⊢
                            refine pure_ (i := 0) (N := some 16) (v := ?_) (a' := ?_) #[true, false, false, false, false, false, false, false, false, false] rfl rfl (any_of HT_.out (by kernel_rfl)) (fun _ _ _ h => h) (Or.inl ⟨by rfl, ?_⟩) ?_ ?_
                            rotate_left
                            · intro w'
                              go_simp
                              with_reducible rfl
                            rotate_left
                            · simp only [Act.put, List.setIfInBounds_toArray, List.set_cons_zero, List.set_cons_succ, i64_w, i32_w]
                              rfl
                            refine pure_ (i := 1) (N := some 17) (v := ?_) (a' := ?_) #[true, true, false, false, false, false, false, false, false, false] rfl rfl (any_of HT_.out (by kernel_rfl)) (fun _ _ _ h => h) (Or.inl ⟨by rfl, ?_⟩) ?_ ?_
                            rotate_left
                            · intro w'
                              go_simp
                              with_reducible rfl
                            rotate_left
                            · simp only [Act.put, List.setIfInBounds_toArray, List.set_cons_zero, List.set_cons_succ, i64_w, i32_w]
                              rfl
                            refine pure_ (i := 3) (N := some 19) (v := ?_) (a' := ?_) #[true, true, false, true, false, false, false, false, false, false] rfl rfl (any_of HT_.out (by kernel_rfl)) (fun _ _ _ h => h) (Or.inl ⟨by rfl, ?_⟩) ?_ ?_
                            rotate_left
                            · intro w'
                              go_simp
                              with_reducible rfl
                            rotate_left
                            · simp only [Act.put, List.setIfInBounds_toArray, List.set_cons_zero, List.set_cons_succ, i64_w, i32_w]
                              rfl
                            refine pure_ (i := 4) (N := some 20) (v := ?_) (a' := ?_) #[true, true, false, true, true, false, false, false, false, false] rfl rfl (any_of HT_.out (by kernel_rfl)) (fun _ _ _ h => h) (Or.inl ⟨by rfl, ?_⟩) ?_ ?_
                            rotate_left
                            · intro w'
                              go_simp
                              with_reducible rfl
                            rotate_left
                            · simp only [Act.put, List.setIfInBounds_toArray, List.set_cons_zero, List.set_cons_succ, i64_w, i32_w]
                              rfl
                            refine take_ (i := 2) (N := some 18) (v := ?_) (a' := ?_) #[true, true, true, true, true, false, false, false, false, false] rfl rfl (take_ofW HT_.out HW_.out (by kernel_rfl)) (fun _ _ _ h => h) (Or.inl ⟨by rfl, ?_⟩) hHeld ?_ ?_
                            rotate_left
                            · rintro w' ⟨s0, s1⟩
                              go_simp
                              with_reducible rfl
                            rotate_left
                            · simp only [Act.put, List.setIfInBounds_toArray, List.set_cons_zero, List.set_cons_succ, i64_w, i32_w]
                              rfl
                            refine take_ (i := 5) (N := some 21) (v := ?_) (a' := ?_) #[true, true, true, true, true, true, false, false, false, false] rfl rfl (take_ofW HT_.out HW_.out (by kernel_rfl)) (fun _ _ _ h => h) (Or.inl ⟨by rfl, ?_⟩) hHeld ?_ ?_
                            rotate_left
                            · rintro w' ⟨s0, s1⟩
                              go_simp
                              with_reducible rfl
                            rotate_left
                            · simp only [Act.put, List.setIfInBounds_toArray, List.set_cons_zero, List.set_cons_succ, i64_w, i32_w]
                              rfl
                            refine pure_ (i := 6) (N := some 22) (v := ?_) (a' := ?_) #[true, true, true, true, true, true, true, false, false, false] rfl rfl (any_of HT_.out (by kernel_rfl)) (fun _ _ _ h => h) (Or.inl ⟨by rfl, ?_⟩) ?_ ?_
                            rotate_left
                            · intro w'
                              go_simp
                              with_reducible rfl
                            rotate_left
                            · simp only [Act.put, List.setIfInBounds_toArray, List.set_cons_zero, List.set_cons_succ, i64_w, i32_w]
                              rfl
                            refine one_ (i := 7) (N := some 4) #[true, true, true, true, true, true, true, true, false, false] rfl rfl (one_of HT_.out (by kernel_rfl)) (by decide) (fun K hK => ?_)
                            refine box_step ?hg (N := 4) ?hd (cs := #[.int .i32 0, .int .i32 0]) (t := 67) ?hr ?_; (case hd => rfl); (case hg => rfl); (case hr => first | (go_simp; done) | (go_simp; rfl))
                            intro gb116 hg w23 hbox hb
                            have HS0_ := (hb.cell (World.block_lt_of_cell? _ _ (hHeld.1))).trans (hHeld.1)
                            have HS1_ := (hb.cell (World.block_lt_of_cell? _ _ (hHeld.2))).trans (hHeld.2)
                            have n0_ := Aside0.mk (Kd.V_below (Kd.V_elderB (by (with_reducible repeat (first | apply Kd.V_alloc | apply Kd.V_drewN | apply Kd.V_drew)); exact HO_0.out) gb116 (Nat.le_of_eq hg.symm)) hb)
                            have n1_ := Aside0.mk (Kd.R_below (Kd.R_elderB (by (with_reducible repeat (first | apply Kd.R_alloc | apply Kd.R_drewN | apply Kd.R_drew)); exact HO_108000.out) gb116 (Nat.le_of_eq hg.symm)) hb)
                            have n2_ := Aside0.mk (blk_below (g := gb106) (o := .cells #[.slice none 0 0, .bool false] 57 (0, 0)) (by (with_reducible repeat (first | refine blk_drewN ?_ _ | refine blk_drew ?_ | refine blk_alloc ?_ _)); exact BK106.out) hb)
                            have n3_ := Aside0.mk (blk_below (g := gb107) (o := .cells #[u108000, .bool x108001_2] 57 (0, 0)) (by (with_reducible repeat (first | refine blk_drewN ?_ _ | refine blk_drew ?_ | refine blk_alloc ?_ _)); exact BK107.out) hb)
                            have n4_ := Aside0.mk (below_step (by repeat (first | (with_reducible first | exact HB.out | apply below_alloc | apply pw_below_drewN | apply below_drew1 | refine below_set ?_ GE106.out | refine below_set ?_ GE107.out) | exact HB.out)) hb)
                            have n5_ := Aside0.mk (hbox)
                            have n6_ := Aside0.mk ((by rw [hg]; exact (below_size (by repeat (first | (with_reducible first | exact HB.out | apply below_alloc | apply pw_below_drewN | apply below_drew1 | refine below_set ?_ GE106.out | refine below_set ?_ GE107.out) | exact HB.out))) : w.heap.size ≤ gb116))
                            have n7_ := Aside0.mk ((by rw [hg]; exact (below_size (by repeat (first | (with_reducible first | exact HB.out | apply below_alloc | apply pw_below_drewN | apply below_drew1 | refine below_set ?_ GE106.out | refine below_set ?_ GE107.out) | exact HB.out))) : w.heap.size ≤ gb116))
                            have n8_ := Aside0.mk ((by rw [hg]; exact Nat.ne_of_lt (blk_lt (g := gb106) (o := .cells #[.slice none 0 0, .bool false] 57 (0, 0)) (by (with_reducible repeat (first | refine blk_drewN ?_ _ | refine blk_drew ?_ | refine blk_alloc ?_ _)); exact BK106.out)) : gb106 ≠ gb116))
                            have n9_ := Aside0.mk ((by rw [hg]; exact Nat.ne_of_gt (blk_lt (g := gb106) (o := .cells #[.slice none 0 0, .bool false] 57 (0, 0)) (by (with_reducible repeat (first | refine blk_drewN ?_ _ | refine blk_drew ?_ | refine blk_alloc ?_ _)); exact BK106.out)) : gb116 ≠ gb106))
                            have n10_ := Aside0.mk ((by rw [hg]; exact Nat.ne_of_lt (blk_lt (g := gb107) (o := .cells #[u108000, .bool x108001_2] 57 (0, 0)) (by (with_reducible repeat (first | refine blk_drewN ?_ _ | refine blk_drew ?_ | refine blk_alloc ?_ _)); exact BK107.out)) : gb107 ≠ gb116))
                            have n11_ := Aside0.mk ((by rw [hg]; exact Nat.ne_of_gt (blk_lt (g := gb107) (o := .cells #[u108000, .bool x108001_2] 57 (0, 0)) (by (with_reducible repeat (first | refine blk_drewN ?_ _ | refine blk_drew ?_ | refine blk_alloc ?_ _)); exact BK107.out)) : gb116 ≠ gb107))
                            clear HO_0
                            clear HO_108000
                            clear BK106
                            clear BK107
                            clear HB
                            have HO_0 := n0_
                            have HO_108000 := n1_
                            have BK106 := n2_
                            have BK107 := n3_
                            have HB := n4_
                            have BK116 := n5_
                            have GW116 := n6_
                            have GE116 := n7_
                            have NB106_116 := n8_
                            have NB116_106 := n9_
                            have NB107_116 := n10_
                            have NB116_107 := n11_
                            clear n0_ n1_ n2_ n3_ n4_ n5_ n6_ n7_ n8_ n9_ n10_ n11_
                            clear hb hbox hg
                            refine hK.out _ _ ⟨HS0_, HS1_⟩ (fun hHeld => ?_)
                            clear hK K
                            refine norm_ (a' := ?_) ?_ ?_
                            rotate_left
                            · show Act.put _ (some 4) _ = _
                              simp only [Act.put, List.setIfInBounds_toArray, List.set_cons_zero, List.set_cons_succ, i64_w, i32_w]
                              rfl
                            refine one_ (i := 8) (N := none) #[true, true, true, true, true, true, true, true, true, false] rfl rfl (one_of HT_.out (by kernel_rfl)) (by decide) (fun K hK => ?_)
                            have hs24 : w23.cell? ⟨gb116, 0, none⟩ = some (.int .i32 0) := (blk_cell BK116.out 0).trans rfl
                            have hfs24 := blk_frozen BK116.out 0
                            have hns24_0 := NB106_116.out
                            have hns24_1 := NB107_116.out
                            have hms24_0 := NB116_106.out
                            have hms24_1 := NB116_107.out
                            have hs25 : w23.cell? ⟨gb116, 1, none⟩ = some (.int .i32 0) := (blk_cell BK116.out 1).trans rfl
                            have hfs25 := blk_frozen BK116.out 1
                            have hns25_0 := NB106_116.out
                            have hns25_1 := NB107_116.out
                            have hms25_0 := NB116_106.out
                            have hms25_1 := NB116_107.out
                            refine skip_ (w1 := ?_) (by rfl) rfl ?_ ?_
                            rotate_left
                            · go_simp
                              rfl
                            refine hK.out _ _ ⟨((cell_far (p := ⟨gb116, _, none⟩) (by first | exact row_away HO_0.out (fun _ hk => hk.2) | (rw [add_block]; exact row_away HO_0.out (fun _ hk => hk.2)) | (show (Addr.add _ _).block ≠ _; rw [add_block]; exact row_away HO_0.out (fun _ hk => hk.2)) | (dsimp only; exact row_away HO_0.out (fun _ hk => hk.2))) _).trans (((cell_far (p := ⟨gb116, _, none⟩) (by first | exact row_away HO_0.out (fun _ hk => hk.2) | (rw [add_block]; exact row_away HO_0.out (fun _ hk => hk.2)) | (show (Addr.add _ _).block ≠ _; rw [add_block]; exact row_away HO_0.out (fun _ hk => hk.2)) | (dsimp only; exact row_away HO_0.out (fun _ hk => hk.2))) _).trans (hHeld.1)))), ((cell_far (p := ⟨gb116, _, none⟩) (by first | exact row_away HO_0.out (fun _ hk => hk.2) | (rw [add_block]; exact row_away HO_0.out (fun _ hk => hk.2)) | (show (Addr.add _ _).block ≠ _; rw [add_block]; exact row_away HO_0.out (fun _ hk => hk.2)) | (dsimp only; exact row_away HO_0.out (fun _ hk => hk.2))) _).trans (((cell_far (p := ⟨gb116, _, none⟩) (by first | exact row_away HO_0.out (fun _ hk => hk.2) | (rw [add_block]; exact row_away HO_0.out (fun _ hk => hk.2)) | (show (Addr.add _ _).block ≠ _; rw [add_block]; exact row_away HO_0.out (fun _ hk => hk.2)) | (dsimp only; exact row_away HO_0.out (fun _ hk => hk.2))) _).trans (hHeld.2))))⟩ (fun hHeld => ?_)
                            clear hK K
                            refine pure_ (i := 9) (N := some 5) (v := ?_) (a' := ?_) #[true, true, true, true, true, true, true, true, true, true] rfl rfl (any_of HT_.out (by kernel_rfl)) (fun _ _ _ h => h) (Or.inl ⟨by rfl, ?_⟩) ?_ ?_
                            rotate_left
                            · intro w'
                              go_simp
                              with_reducible rfl
                            rotate_left
                            · simp only [Act.put, List.setIfInBounds_toArray, List.set_cons_zero, List.set_cons_succ, i64_w, i32_w]
                              rfl
                            refine done_ (done_of HT_.out (by kernel_rfl)) ?_
                            have p117 : 0 ≤ (1 : Int) := (by omega)
                            have q117 : 1 < (x0_2.length : Int) := of_decide_eq_true (by first | (with_reducible assumption) | assumption)
                            obtain ⟨ad117, e117, hx117_0⟩ := Kd.at_int (Kd.V_reads' HO_0.out).2.2 1 p117 q117
                            obtain rfl : ad114 = ad117 := (by injection e117)
                            (try simp only [show (1 : Int).toNat = 1 from rfl, Nat.reduceMul, Nat.reduceEqDiff, Go.Addr.add, ↓reduceIte] at hx117_0)
                            have qi117 : (1 < x0_2.length) = True := eq_true (by omega)
                            (try rw [show ((1 : Int)).toNat = 1 from rfl] at hx117_0)
                            have hn117_0 : ad114.block ≠ gb116 := row_away HO_0.out (by intro _ hk; first | exact hk.2 | exact hk.2.2 | exact hk.2.2.2 | exact hk.2.2.2.2 | exact hk.1.2)
                            have hn117_1 : ad114.block ≠ gb116 := row_away HO_0.out (by intro _ hk; first | exact hk.2 | exact hk.2.2 | exact hk.2.2.2 | exact hk.2.2.2.2 | exact hk.1.2)
                            replace hx117_0 := (cell_far (p := ⟨gb116, 0, none⟩) (by first | (rw [add_block]; exact hn117_0) | (show (Addr.add _ _).block ≠ _; rw [add_block]; exact hn117_0) | exact hn117_0) (.int .i32 (rd x0_2 0))).trans hx117_0
                            replace hx117_0 := (cell_far (p := ⟨gb116, 1, none⟩) (by first | (rw [add_block]; exact hn117_1) | (show (Addr.add _ _).block ≠ _; rw [add_block]; exact hn117_1) | exact hn117_1) (.int .i32 (rd x0_2 0))).trans hx117_0
                            clear hn117_0
                            clear hn117_1
                            replace p117 := eq_true p117
                            replace q117 := eq_true q117
                            try go_wp2
                            have n0_ : Aside0 (Kd.V (Kd.int .i32) 21 ((w23.setCell ⟨gb116, 0, none⟩ (.int .i32 (rd x0_2 0))).setCell ⟨gb116, 1, none⟩ (.int .i32 (rd x0_2 0))) w.heap.size (fun k_ => (P0_ k_ ∨ w.heap.size ≤ k_) ∧ some k_ ≠ (u108000 : Value).ownBlock ∧ k_ ≠ gb106 ∧ k_ ≠ gb107 ∧ k_ ≠ gb116) (.slice (some ad114) x0_2.length co21) x0_2) := ⟨by (with_reducible repeat (first | apply Kd.V_alloc | apply Kd.V_drewN | apply Kd.V_drew)); exact Kd.V_mono (Kd.V_far (p := ⟨gb116, 1, none⟩) (Kd.V_far (p := ⟨gb116, 0, none⟩) (Kd.V_mono HO_0.out (fun k_ hk => (⟨hk, hk.2⟩ : _ ∧ k_ ≠ gb116))) (fun _ hk => hk.2) (.int .i32 (rd x0_2 0))) (fun _ hk => hk.2) (.int .i32 (rd x0_2 0))) (fun _ hk => ⟨hk.1.1.1, ⟨hk.1.1.2.1, ⟨hk.1.1.2.2.1, ⟨hk.1.1.2.2.2, hk.1.2⟩⟩⟩⟩)⟩
                            have n1_ : Aside0 (Kd.R k67 67 ((w23.setCell ⟨gb116, 0, none⟩ (.int .i32 (rd x0_2 0))).setCell ⟨gb116, 1, none⟩ (.int .i32 (rd x0_2 0))) w.heap.size (fun k_ => (w.heap.size ≤ k_) ∧ k_ ≠ gb116) u108000 x108000_2) := ⟨by (with_reducible repeat (first | apply Kd.R_alloc | apply Kd.R_drewN | apply Kd.R_drew)); exact Kd.R_mono (Kd.R_far (p := ⟨gb116, 1, none⟩) (Kd.R_far (p := ⟨gb116, 0, none⟩) (Kd.R_mono HO_108000.out (fun k_ hk => (⟨hk, hk.2⟩ : _ ∧ k_ ≠ gb116))) (fun _ hk => hk.2) (.int .i32 (rd x0_2 0))) (fun _ hk => hk.2) (.int .i32 (rd x0_2 0))) (fun _ hk => ⟨hk.1.1, hk.1.2⟩)⟩
                            have n2_ : Aside0 (((w23.setCell ⟨gb116, 0, none⟩ (.int .i32 (rd x0_2 0))).setCell ⟨gb116, 1, none⟩ (.int .i32 (rd x0_2 0))).heap[gb106]? = some (.cells #[.slice none 0 0, .bool false] 57 (0, 0))) := ⟨by (with_reducible repeat (first | refine blk_drewN ?_ _ | refine blk_drew ?_ | refine blk_alloc ?_ _)); refine blk_far ?_ NB106_116.out _; (with_reducible repeat (first | refine blk_drewN ?_ _ | refine blk_drew ?_ | refine blk_alloc ?_ _)); refine blk_far ?_ NB106_116.out _; (with_reducible repeat (first | refine blk_drewN ?_ _ | refine blk_drew ?_ | refine blk_alloc ?_ _)); exact BK106.out⟩
                            have n3_ : Aside0 (((w23.setCell ⟨gb116, 0, none⟩ (.int .i32 (rd x0_2 0))).setCell ⟨gb116, 1, none⟩ (.int .i32 (rd x0_2 0))).heap[gb107]? = some (.cells #[u108000, .bool x108001_2] 57 (0, 0))) := ⟨by (with_reducible repeat (first | refine blk_drewN ?_ _ | refine blk_drew ?_ | refine blk_alloc ?_ _)); refine blk_far ?_ NB107_116.out _; (with_reducible repeat (first | refine blk_drewN ?_ _ | refine blk_drew ?_ | refine blk_alloc ?_ _)); refine blk_far ?_ NB107_116.out _; (with_reducible repeat (first | refine blk_drewN ?_ _ | refine blk_drew ?_ | refine blk_alloc ?_ _)); exact BK107.out⟩
                            have n4_ : Aside0 (((w23.setCell ⟨gb116, 0, none⟩ (.int .i32 (rd x0_2 0))).setCell ⟨gb116, 1, none⟩ (.int .i32 (rd x0_2 0))).heap[gb116]? = some (.cells #[.int .i32 (rd x0_2 0), .int .i32 (rd x0_2 0)] 67 (0, 0))) := ⟨by (with_reducible repeat (first | refine blk_drewN ?_ _ | refine blk_drew ?_ | refine blk_alloc ?_ _)); refine blk_put (cs := #[.int .i32 (rd x0_2 0), .int .i32 0]) ?_ 1 _ rfl; (with_reducible repeat (first | refine blk_drewN ?_ _ | refine blk_drew ?_ | refine blk_alloc ?_ _)); refine blk_put (cs := #[.int .i32 0, .int .i32 0]) ?_ 0 _ rfl; (with_reducible repeat (first | refine blk_drewN ?_ _ | refine blk_drew ?_ | refine blk_alloc ?_ _)); exact BK116.out⟩
                            have n5_ : Aside0 (Below w.heap.size w ((w23.setCell ⟨gb116, 0, none⟩ (.int .i32 (rd x0_2 0))).setCell ⟨gb116, 1, none⟩ (.int .i32 (rd x0_2 0)))) := ⟨by repeat (first | (with_reducible first | exact HB.out | apply below_alloc | apply pw_below_drewN | apply below_drew1 | refine below_set ?_ GE106.out | refine below_set ?_ GE107.out | refine below_set ?_ GE116.out) | exact HB.out)⟩
                            (try clear HO_0)
                            (try clear HO_108000)
                            (try clear BK106)
                            (try clear BK107)
                            (try clear BK116)
                            (try clear HB)
                            generalize ((w23.setCell ⟨gb116, 0, none⟩ (.int .i32 (rd x0_2 0))).setCell ⟨gb116, 1, none⟩ (.int .i32 (rd x0_2 0))) = w26 at n0_ n1_ n2_ n3_ n4_ n5_ ⊢
                            have HO_0 := n0_
                            have HO_108000 := n1_
                            have BK106 := n2_
                            have BK107 := n3_
                            have BK116 := n4_
                            have HB := n5_
                            clear n0_ n1_ n2_ n3_ n4_ n5_
                            have n0_ := Aside0.mk (Kd.V_drew HO_0.out)
                            have n1_ := Aside0.mk (Kd.R_drew HO_108000.out)
                            have n2_ := Aside0.mk (blk_drew BK106.out)
                            have n3_ := Aside0.mk (blk_drew BK107.out)
                            have n4_ := Aside0.mk (blk_drew BK116.out)
                            have n5_ := Aside0.mk (below_drew1 HB.out)
                            clear HO_0
                            clear HO_108000
                            clear BK106
                            clear BK107
                            clear BK116
                            clear HB
                            have HO_0 := n0_
                            have HO_108000 := n1_
                            have BK106 := n2_
                            have BK107 := n3_
                            have BK116 := n4_
                            have HB := n5_
                            clear n0_ n1_ n2_ n3_ n4_ n5_
                            have p118 : 0 ≤ (0 : Int) := (by omega)
                            have q118 : 0 < (x0_2.length : Int) := of_decide_eq_true (by first | (with_reducible assumption) | assumption)
                            obtain ⟨ad118, e118, hx118_0⟩ := Kd.at_int (Kd.V_reads' HO_0.out).2.2 0 p118 q118
                            obtain rfl : ad114 = ad118 := (by injection e118)
                            have qi118 : (0 < x0_2.length) = True := eq_true (by omega)
                            (try rw [show ((0 : Int)).toNat = 0 from rfl] at hx118_0)
                            (try rw [Addr.add_zero'] at hx118_0)
                            replace p118 := eq_true p118
                            replace q118 := eq_true q118
                            have p119 : 0 ≤ (2 : Int) := (by omega)
                            have q119 : 2 < (x0_2.length : Int) := of_decide_eq_true (by first | (with_reducible assumption) | assumption)
                            obtain ⟨ad119, e119, hx119_0⟩ := Kd.at_int (Kd.V_reads' HO_0.out).2.2 2 p119 q119
                            obtain rfl : ad114 = ad119 := (by injection e119)
                            (try simp only [show (2 : Int).toNat = 2 from rfl, Nat.reduceMul, Nat.reduceEqDiff, Go.Addr.add, ↓reduceIte] at hx119_0)
                            have qi119 : (2 < x0_2.length) = True := eq_true (by omega)
                            (try rw [show ((2 : Int)).toNat = 2 from rfl] at hx119_0)
                            replace p119 := eq_true p119
                            replace q119 := eq_true q119
                            have p120 : 0 ≤ (0 : Int) := (by omega)
                            have q120 : 0 < (x0_2.length : Int) := of_decide_eq_true (by first | (with_reducible assumption) | assumption)
                            obtain ⟨ad120, e120, hx120_0⟩ := Kd.at_int (Kd.V_reads' HO_0.out).2.2 0 p120 q120
                            obtain rfl : ad114 = ad120 := (by injection e120)
                            have qi120 : (0 < x0_2.length) = True := eq_true (by omega)
                            (try rw [show ((0 : Int)).toNat = 0 from rfl] at hx120_0)
                            (try rw [Addr.add_zero'] at hx120_0)
                            replace p120 := eq_true p120
                            replace q120 := eq_true q120
                            have p121 : 0 ≤ (2 : Int) := (by omega)
                            have q121 : 2 < (x0_2.length : Int) := of_decide_eq_true (by first | (with_reducible assumption) | assumption)
                            obtain ⟨ad121, e121, hx121_0⟩ := Kd.at_int (Kd.V_reads' HO_0.out).2.2 2 p121 q121
                            obtain rfl : ad114 = ad121 := (by injection e121)
                            (try simp only [show (2 : Int).toNat = 2 from rfl, Nat.reduceMul, Nat.reduceEqDiff, Go.Addr.add, ↓reduceIte] at hx121_0)
                            have qi121 : (2 < x0_2.length) = True := eq_true (by omega)
                            (try rw [show ((2 : Int)).toNat = 2 from rfl] at hx121_0)
                            replace p121 := eq_true p121
                            replace q121 := eq_true q121
                            refine start_ (n := 17) (S := fun w' => w'.cell? ad114 = some (.int .i32 (rd x0_2 0)) ∧ w'.cell? ⟨ad114.block, ad114.off + 2, none⟩ = some (.int .i32 (rd x0_2 2)) ∧ w'.cell? ad114 = some (.int .i32 (rd x0_2 0)) ∧ w'.cell? ⟨ad114.block, ad114.off + 2, none⟩ = some (.int .i32 (rd x0_2 2))) (ds := []) #[false, false, false, false, false, false, false, false, false, false, false, false, false, false, false, false, false] (by kernel_rfl) rfl rfl ⟨hx118_0, hx119_0, hx120_0, hx121_0⟩ (fun hHeld => ?_); refine with_tabW glob_within.tab7 glob_within.bits7 (fun HT_ HW_ => ?_)
                            generalize w26.drew = w27 at HO_0 HO_108000 BK106 BK107 BK116 HB hx118_0 hx119_0 hx120_0 hx121_0 hHeld ⊢
                            refine pure_ (i := 0) (N := some 32) (v := ?_) (a' := ?_) #[true, false, false, false, false, false, false, false, false, false, false, false, false, false, false, false, false] rfl rfl (any_of HT_.out (by kernel_rfl)) (fun _ _ _ h => h) (Or.inl ⟨by rfl, ?_⟩) ?_ ?_
                            rotate_left
                            · intro w'
                              go_simp
                              with_reducible rfl
                            rotate_left
                            · simp only [Act.put, List.setIfInBounds_toArray, List.set_cons_zero, List.set_cons_succ, i64_w, i32_w]
                              rfl
                            refine pure_ (i := 1) (N := some 33) (v := ?_) (a' := ?_) #[true, true, false, false, false, false, false, false, false, false, false, false, false, false, false, false, false] rfl rfl (any_of HT_.out (by kernel_rfl)) (fun _ _ _ h => h) (Or.inl ⟨by rfl, ?_⟩) ?_ ?_
                            rotate_left
                            · intro w'
                              go_simp
                              with_reducible rfl
                            rotate_left
                            · simp only [Act.put, List.setIfInBounds_toArray, List.set_cons_zero, List.set_cons_succ, i64_w, i32_w]
                              rfl
                            refine pure_ (i := 3) (N := some 35) (v := ?_) (a' := ?_) #[true, true, false, true, false, false, false, false, false, false, false, false, false, false, false, false, false] rfl rfl (any_of HT_.out (by kernel_rfl)) (fun _ _ _ h => h) (Or.inl ⟨by rfl, ?_⟩) ?_ ?_
                            rotate_left
                            · intro w'
                              go_simp
                              with_reducible rfl
                            rotate_left
                            · simp only [Act.put, List.setIfInBounds_toArray, List.set_cons_zero, List.set_cons_succ, i64_w, i32_w]
                              rfl
                            refine pure_ (i := 4) (N := some 36) (v := ?_) (a' := ?_) #[true, true, false, true, true, false, false, false, false, false, false, false, false, false, false, false, false] rfl rfl (any_of HT_.out (by kernel_rfl)) (fun _ _ _ h => h) (Or.inl ⟨by rfl, ?_⟩) ?_ ?_
                            rotate_left
                            · intro w'
                              go_simp
                              with_reducible rfl
                            rotate_left
                            · simp only [Act.put, List.setIfInBounds_toArray, List.set_cons_zero, List.set_cons_succ, i64_w, i32_w]
                              rfl
                            refine pure_ (i := 7) (N := some 39) (v := ?_) (a' := ?_) #[true, true, false, true, true, false, false, true, false, false, false, false, false, false, false, false, false] rfl rfl (any_of HT_.out (by kernel_rfl)) (fun _ _ _ h => h) (Or.inl ⟨by rfl, ?_⟩) ?_ ?_
                            rotate_left
                            · intro w'
                              go_simp
                              with_reducible rfl
                            rotate_left
                            · simp only [Act.put, List.setIfInBounds_toArray, List.set_cons_zero, List.set_cons_succ, i64_w, i32_w]
                              rfl
                            refine pure_ (i := 8) (N := some 40) (v := ?_) (a' := ?_) #[true, true, false, true, true, false, false, true, true, false, false, false, false, false, false, false, false] rfl rfl (any_of HT_.out (by kernel_rfl)) (fun _ _ _ h => h) (Or.inl ⟨by rfl, ?_⟩) ?_ ?_
                            rotate_left
                            · intro w'
                              go_simp
                              with_reducible rfl
                            rotate_left
                            · simp only [Act.put, List.setIfInBounds_toArray, List.set_cons_zero, List.set_cons_succ, i64_w, i32_w]
                              rfl
                            refine pure_ (i := 10) (N := some 42) (v := ?_) (a' := ?_) #[true, true, false, true, true, false, false, true, true, false, true, false, false, false, false, false, false] rfl rfl (any_of HT_.out (by kernel_rfl)) (fun _ _ _ h => h) (Or.inl ⟨by rfl, ?_⟩) ?_ ?_
                            rotate_left
                            · intro w'
                              go_simp
                              with_reducible rfl
                            rotate_left
                            · simp only [Act.put, List.setIfInBounds_toArray, List.set_cons_zero, List.set_cons_succ, i64_w, i32_w]
                              rfl
                            refine pure_ (i := 11) (N := some 43) (v := ?_) (a' := ?_) #[true, true, false, true, true, false, false, true, true, false, true, true, false, false, false, false, false] rfl rfl (any_of HT_.out (by kernel_rfl)) (fun _ _ _ h => h) (Or.inl ⟨by rfl, ?_⟩) ?_ ?_
                            rotate_left
                            · intro w'
                              go_simp
                              with_reducible rfl
                            rotate_left
                            · simp only [Act.put, List.setIfInBounds_toArray, List.set_cons_zero, List.set_cons_succ, i64_w, i32_w]
                              rfl
                            refine take_ (i := 2) (N := some 34) (v := ?_) (a' := ?_) #[true, true, true, true, true, false, false, true, true, false, true, true, false, false, false, false, false] rfl rfl (take_ofW HT_.out HW_.out (by kernel_rfl)) (fun _ _ _ h => h) (Or.inl ⟨by rfl, ?_⟩) hHeld ?_ ?_
                            rotate_left
                            · rintro w' ⟨s0, s1, s2, s3⟩
                              go_simp
                              with_reducible rfl
                            rotate_left
                            · simp only [Act.put, List.setIfInBounds_toArray, List.set_cons_zero, List.set_cons_succ, i64_w, i32_w]
                              rfl
                            refine take_ (i := 5) (N := some 37) (v := ?_) (a' := ?_) #[true, true, true, true, true, true, false, true, true, false, true, true, false, false, false, false, false] rfl rfl (take_ofW HT_.out HW_.out (by kernel_rfl)) (fun _ _ _ h => h) (Or.inl ⟨by rfl, ?_⟩) hHeld ?_ ?_
                            rotate_left
                            · rintro w' ⟨s0, s1, s2, s3⟩
                              go_simp
                              with_reducible rfl
                            rotate_left
                            · simp only [Act.put, List.setIfInBounds_toArray, List.set_cons_zero, List.set_cons_succ, i64_w, i32_w]
                              rfl
                            refine pure_ (i := 6) (N := some 38) (v := ?_) (a' := ?_) #[true, true, true, true, true, true, true, true, true, false, true, true, false, false, false, false, false] rfl rfl (any_of HT_.out (by kernel_rfl)) (fun _ _ _ h => h) (Or.inl ⟨by rfl, ?_⟩) ?_ ?_
                            rotate_left
                            · intro w'
                              go_simp
                              with_reducible rfl
                            rotate_left
                            · simp only [Act.put, List.setIfInBounds_toArray, List.set_cons_zero, List.set_cons_succ, i64_w, i32_w]
                              rfl
                            refine take_ (i := 9) (N := some 41) (v := ?_) (a' := ?_) #[true, true, true, true, true, true, true, true, true, true, true, true, false, false, false, false, false] rfl rfl (take_ofW HT_.out HW_.out (by kernel_rfl)) (fun _ _ _ h => h) (Or.inl ⟨by rfl, ?_⟩) hHeld ?_ ?_
                            rotate_left
                            · rintro w' ⟨s0, s1, s2, s3⟩
                              go_simp
                              with_reducible rfl
                            rotate_left
                            · simp only [Act.put, List.setIfInBounds_toArray, List.set_cons_zero, List.set_cons_succ, i64_w, i32_w]
                              rfl
                            refine take_ (i := 12) (N := some 44) (v := ?_) (a' := ?_) #[true, true, true, true, true, true, true, true, true, true, true, true, true, false, false, false, false] rfl rfl (take_ofW HT_.out HW_.out (by kernel_rfl)) (fun _ _ _ h => h) (Or.inl ⟨by rfl, ?_⟩) hHeld ?_ ?_
                            rotate_left
                            · rintro w' ⟨s0, s1, s2, s3⟩
                              go_simp
                              with_reducible rfl
                            rotate_left
                            · simp only [Act.put, List.setIfInBounds_toArray, List.set_cons_zero, List.set_cons_succ, i64_w, i32_w]
                              rfl
                            refine pure_ (i := 13) (N := some 45) (v := ?_) (a' := ?_) #[true, true, true, true, true, true, true, true, true, true, true, true, true, true, false, false, false] rfl rfl (any_of HT_.out (by kernel_rfl)) (fun _ _ _ h => h) (Or.inl ⟨by rfl, ?_⟩) ?_ ?_
                            rotate_left
                            · intro w'
                              go_simp
                              with_reducible rfl
                            rotate_left
                            · simp only [Act.put, List.setIfInBounds_toArray, List.set_cons_zero, List.set_cons_succ, i64_w, i32_w]
                              rfl
                            refine pure_ (i := 14) (N := some 46) (v := ?_) (a' := ?_) #[true, true, true, true, true, true, true, true, true, true, true, true, true, true, true, false, false] rfl rfl (any_of HT_.out (by kernel_rfl)) (fun _ _ _ h => h) (Or.inl ⟨by rfl, ?_⟩) ?_ ?_
                            rotate_left
                            · intro w'
                              go_simp
                              with_reducible rfl
                            rotate_left
                            · simp only [Act.put, List.setIfInBounds_toArray, List.set_cons_zero, List.set_cons_succ, i64_w, i32_w]
                              rfl
                            refine one_ (i := 15) (N := none) #[true, true, true, true, true, true, true, true, true, true, true, true, true, true, true, true, false] rfl rfl (one_of HT_.out (by kernel_rfl)) (by decide) (fun K hK => ?_)
                            have hs28 : w27.cell? ⟨gb116, 0, none⟩ = some (.int .i32 (rd x0_2 0)) := (blk_cell BK116.out 0).trans rfl
                            have hfs28 := blk_frozen BK116.out 0
                            have hns28_0 := NB106_116.out
                            have hns28_1 := NB107_116.out
                            have hms28_0 := NB116_106.out
                            have hms28_1 := NB116_107.out
                            have hs29 : w27.cell? ⟨gb116, 1, none⟩ = some (.int .i32 (rd x0_2 0)) := (blk_cell BK116.out 1).trans rfl
                            have hfs29 := blk_frozen BK116.out 1
                            have hns29_0 := NB106_116.out
                            have hns29_1 := NB107_116.out
                            have hms29_0 := NB116_106.out
                            have hms29_1 := NB116_107.out
                            refine skip_ (w1 := ?_) (by rfl) rfl ?_ ?_
                            rotate_left
                            · go_simp
                              rfl
                            refine hK.out _ _ ⟨((cell_far (p := ⟨gb116, _, none⟩) (by first | exact row_away HO_0.out (fun _ hk => hk.2.2.2.2) | (rw [add_block]; exact row_away HO_0.out (fun _ hk => hk.2.2.2.2)) | (show (Addr.add _ _).block ≠ _; rw [add_block]; exact row_away HO_0.out (fun _ hk => hk.2.2.2.2)) | (dsimp only; exact row_away HO_0.out (fun _ hk => hk.2.2.2.2))) _).trans (((cell_far (p := ⟨gb116, _, none⟩) (by first | exact row_away HO_0.out (fun _ hk => hk.2.2.2.2) | (rw [add_block]; exact row_away HO_0.out (fun _ hk => hk.2.2.2.2)) | (show (Addr.add _ _).block ≠ _; rw [add_block]; exact row_away HO_0.out (fun _ hk => hk.2.2.2.2)) | (dsimp only; exact row_away HO_0.out (fun _ hk => hk.2.2.2.2))) _).trans (hHeld.1)))), ((cell_far (p := ⟨gb116, _, none⟩) (by first | exact row_away HO_0.out (fun _ hk => hk.2.2.2.2) | (rw [add_block]; exact row_away HO_0.out (fun _ hk => hk.2.2.2.2)) | (show (Addr.add _ _).block ≠ _; rw [add_block]; exact row_away HO_0.out (fun _ hk => hk.2.2.2.2)) | (dsimp only; exact row_away HO_0.out (fun _ hk => hk.2.2.2.2))) _).trans (((cell_far (p := ⟨gb116, _, none⟩) (by first | exact row_away HO_0.out (fun _ hk => hk.2.2.2.2) | (rw [add_block]; exact row_away HO_0.out (fun _ hk => hk.2.2.2.2)) | (show (Addr.add _ _).block ≠ _; rw [add_block]; exact row_away HO_0.out (fun _ hk => hk.2.2.2.2)) | (dsimp only; exact row_away HO_0.out (fun _ hk => hk.2.2.2.2))) _).trans (hHeld.2.1)))), ((cell_far (p := ⟨gb116, _, none⟩) (by first | exact row_away HO_0.out (fun _ hk => hk.2.2.2.2) | (rw [add_block]; exact row_away HO_0.out (fun _ hk => hk.2.2.2.2)) | (show (Addr.add _ _).block ≠ _; rw [add_block]; exact row_away HO_0.out (fun _ hk => hk.2.2.2.2)) | (dsimp only; exact row_away HO_0.out (fun _ hk => hk.2.2.2.2))) _).trans (((cell_far (p := ⟨gb116, _, none⟩) (by first | exact row_away HO_0.out (fun _ hk => hk.2.2.2.2) | (rw [add_block]; exact row_away HO_0.out (fun _ hk => hk.2.2.2.2)) | (show (Addr.add _ _).block ≠ _; rw [add_block]; exact row_away HO_0.out (fun _ hk => hk.2.2.2.2)) | (dsimp only; exact row_away HO_0.out (fun _ hk => hk.2.2.2.2))) _).trans (hHeld.2.2.1)))), ((cell_far (p := ⟨gb116, _, none⟩) (by first | exact row_away HO_0.out (fun _ hk => hk.2.2.2.2) | (rw [add_block]; exact row_away HO_0.out (fun _ hk => hk.2.2.2.2)) | (show (Addr.add _ _).block ≠ _; rw [add_block]; exact row_away HO_0.out (fun _ hk => hk.2.2.2.2)) | (dsimp only; exact row_away HO_0.out (fun _ hk => hk.2.2.2.2))) _).trans (((cell_far (p := ⟨gb116, _, none⟩) (by first | exact row_away HO_0.out (fun _ hk => hk.2.2.2.2) | (rw [add_block]; exact row_away HO_0.out (fun _ hk => hk.2.2.2.2)) | (show (Addr.add _ _).block ≠ _; rw [add_block]; exact row_away HO_0.out (fun _ hk => hk.2.2.2.2)) | (dsimp only; exact row_away HO_0.out (fun _ hk => hk.2.2.2.2))) _).trans (hHeld.2.2.2))))⟩ (fun hHeld => ?_)
                            clear hK K
                            refine pure_ (i := 16) (N := some 5) (v := ?_) (a' := ?_) #[true, true, true, true, true, true, true, true, true, true, true, true, true, true, true, true, true] rfl rfl (any_of HT_.out (by kernel_rfl)) (fun _ _ _ h => h) (Or.inl ⟨by rfl, ?_⟩) ?_ ?_
                            rotate_left
                            · intro w'
                              go_simp
                              with_reducible rfl
                            rotate_left
                            · simp only [Act.put, List.setIfInBounds_toArray, List.set_cons_zero, List.set_cons_succ, i64_w, i32_w]
                              rfl
                            refine done_ (done_of HT_.out (by kernel_rfl)) ?_
                            try go_wp2
                            have n0_ : Aside0 (Kd.V (Kd.int .i32) 21 ((w27.setCell ⟨gb116, 0, none⟩ (.int .i32 ji17)).setCell ⟨gb116, 1, none⟩ (.int .i32 ji18)) w.heap.size (fun k_ => (P0_ k_ ∨ w.heap.size ≤ k_) ∧ some k_ ≠ (u108000 : Value).ownBlock ∧ k_ ≠ gb106 ∧ k_ ≠ gb107 ∧ k_ ≠ gb116) (.slice (some ad114) x0_2.length co21) x0_2) := ⟨by (with_reducible repeat (first | apply Kd.V_alloc | apply Kd.V_drewN | apply Kd.V_drew)); exact Kd.V_mono (Kd.V_far (p := ⟨gb116, 1, none⟩) (Kd.V_far (p := ⟨gb116, 0, none⟩) (Kd.V_mono HO_0.out (fun k_ hk => (⟨hk, hk.2.2.2.2⟩ : _ ∧ k_ ≠ gb116))) (fun _ hk => hk.2) (.int .i32 ji17)) (fun _ hk => hk.2) (.int .i32 ji18)) (fun _ hk => ⟨hk.1.1, ⟨hk.1.2.1, ⟨hk.1.2.2.1, ⟨hk.1.2.2.2.1, hk.1.2.2.2.2⟩⟩⟩⟩)⟩
                            have n1_ : Aside0 (Kd.R k67 67 ((w27.setCell ⟨gb116, 0, none⟩ (.int .i32 ji17)).setCell ⟨gb116, 1, none⟩ (.int .i32 ji18)) w.heap.size (fun k_ => (w.heap.size ≤ k_) ∧ k_ ≠ gb116) u108000 x108000_2) := ⟨by (with_reducible repeat (first | apply Kd.R_alloc | apply Kd.R_drewN | apply Kd.R_drew)); exact Kd.R_mono (Kd.R_far (p := ⟨gb116, 1, none⟩) (Kd.R_far (p := ⟨gb116, 0, none⟩) (Kd.R_mono HO_108000.out (fun k_ hk => (⟨hk, hk.2⟩ : _ ∧ k_ ≠ gb116))) (fun _ hk => hk.2) (.int .i32 ji17)) (fun _ hk => hk.2) (.int .i32 ji18)) (fun _ hk => ⟨hk.1.1, hk.1.2⟩)⟩
                            have n2_ : Aside0 (((w27.setCell ⟨gb116, 0, none⟩ (.int .i32 ji17)).setCell ⟨gb116, 1, none⟩ (.int .i32 ji18)).heap[gb106]? = some (.cells #[.slice none 0 0, .bool false] 57 (0, 0))) := ⟨by (with_reducible repeat (first | refine blk_drewN ?_ _ | refine blk_drew ?_ | refine blk_alloc ?_ _)); refine blk_far ?_ NB106_116.out _; (with_reducible repeat (first | refine blk_drewN ?_ _ | refine blk_drew ?_ | refine blk_alloc ?_ _)); refine blk_far ?_ NB106_116.out _; (with_reducible repeat (first | refine blk_drewN ?_ _ | refine blk_drew ?_ | refine blk_alloc ?_ _)); exact BK106.out⟩
                            have n3_ : Aside0 (((w27.setCell ⟨gb116, 0, none⟩ (.int .i32 ji17)).setCell ⟨gb116, 1, none⟩ (.int .i32 ji18)).heap[gb107]? = some (.cells #[u108000, .bool x108001_2] 57 (0, 0))) := ⟨by (with_reducible repeat (first | refine blk_drewN ?_ _ | refine blk_drew ?_ | refine blk_alloc ?_ _)); refine blk_far ?_ NB107_116.out _; (with_reducible repeat (first | refine blk_drewN ?_ _ | refine blk_drew ?_ | refine blk_alloc ?_ _)); refine blk_far ?_ NB107_116.out _; (with_reducible repeat (first | refine blk_drewN ?_ _ | refine blk_drew ?_ | refine blk_alloc ?_ _)); exact BK107.out⟩
                            have n4_ : Aside0 (((w27.setCell ⟨gb116, 0, none⟩ (.int .i32 ji17)).setCell ⟨gb116, 1, none⟩ (.int .i32 ji18)).heap[gb116]? = some (.cells #[.int .i32 ji17, .int .i32 ji18] 67 (0, 0))) := ⟨by (with_reducible repeat (first | refine blk_drewN ?_ _ | refine blk_drew ?_ | refine blk_alloc ?_ _)); refine blk_put (cs := #[.int .i32 ji17, .int .i32 (rd x0_2 0)]) ?_ 1 _ rfl; (with_reducible repeat (first | refine blk_drewN ?_ _ | refine blk_drew ?_ | refine blk_alloc ?_ _)); refine blk_put (cs := #[.int .i32 (rd x0_2 0), .int .i32 (rd x0_2 0)]) ?_ 0 _ rfl; (with_reducible repeat (first | refine blk_drewN ?_ _ | refine blk_drew ?_ | refine blk_alloc ?_ _)); exact BK116.out⟩
                            have n5_ : Aside0 (Below w.heap.size w ((w27.setCell ⟨gb116, 0, none⟩ (.int .i32 ji17)).setCell ⟨gb116, 1, none⟩ (.int .i32 ji18))) := ⟨by repeat (first | (with_reducible first | exact HB.out | apply below_alloc | apply pw_below_drewN | apply below_drew1 | refine below_set ?_ GE106.out | refine below_set ?_ GE107.out | refine below_set ?_ GE116.out) | exact HB.out)⟩
                            (try clear HO_0)
                            (try clear HO_108000)
                            (try clear BK106)
                            (try clear BK107)
                            (try clear BK116)
                            (try clear HB)
                            generalize ((w27.setCell ⟨gb116, 0, none⟩ (.int .i32 ji17)).setCell ⟨gb116, 1, none⟩ (.int .i32 ji18)) = w30 at n0_ n1_ n2_ n3_ n4_ n5_ ⊢
                            have HO_0 := n0_
                            have HO_108000 := n1_
                            have BK106 := n2_
                            have BK107 := n3_
                            have BK116 := n4_
                            have HB := n5_
                            clear n0_ n1_ n2_ n3_ n4_ n5_
                            have n0_ := Aside0.mk (Kd.V_drew HO_0.out)
                            have n1_ := Aside0.mk (Kd.R_drew HO_108000.out)
                            have n2_ := Aside0.mk (blk_drew BK106.out)
                            have n3_ := Aside0.mk (blk_drew BK107.out)
                            have n4_ := Aside0.mk (blk_drew BK116.out)
                            have n5_ := Aside0.mk (below_drew1 HB.out)
                            clear HO_0
                            clear HO_108000
                            clear BK106
                            clear BK107
                            clear BK116
                            clear HB
                            have HO_0 := n0_
                            have HO_108000 := n1_
                            have BK106 := n2_
                            have BK107 := n3_
                            have BK116 := n4_
                            have HB := n5_
                            clear n0_ n1_ n2_ n3_ n4_ n5_
                            have q32 : (3 : Int) ≤ ((x0_2.length : Int) : Int) := of_decide_eq_true (by first | (with_reducible assumption) | assumption)
                            obtain ⟨i032, hi032, _, hsz32, _⟩ := info_parts info21
                            have hroom32 : x0_2.length ≤ co21 := (Kd.V_reads' HO_0.out).2.1
                            have hC32 : Kd.F (Kd.int .i32) _ _ (some ad114) x0_2.length x0_2 := (Kd.V_at (base := w.heap.size) HO_0.out).2.2
                            have hcut32 := cut_from (P := Try.prog) 31 21 .i64 Try.underlying31 hi032 1 hsz32 (some ad114) x0_2.length co21 3 (by omega) q32
                            have hr32 := Kd.F_cut (m := (3 : Int).toNat) (c := co21) hC32 (by omega) hroom32
                            obtain ⟨A32, hA32⟩ : ∃ A1, A1 = (if co21 = (3 : Int).toNat then (some ad114) else ((some ad114) : Option Addr).map (·.add ((3 : Int).toNat * 1))) := ⟨_, rfl⟩
                            obtain ⟨c32, hc32⟩ : ∃ c1, c1 = co21 - (3 : Int).toNat := ⟨_, rfl⟩
                            have hy32 : y125.length = x0_2.length - (3 : Int).toNat := (by rw [Ny125.out, List.length_drop] <;> omega)
                            rw [show (x0_2).drop (3 : Int).toNat = y125 from Ny125.out.symm] at hr32
                            replace hr32 : Kd.F (Kd.int .i32) _ _ A32 y125.length y125 := (by rw [hA32]; exact hr32)
                            rw [← hy32, ← hA32, ← hc32] at hcut32
                            have HO129 := Aside0.mk (show Kd.V (Kd.int .i32) 21 _ w.heap.size _ (.slice A32 y125.length c32) y125 from Kd.V_mk (by rw [hy32, hc32]; exact Nat.sub_le_sub_right hroom32 _) hr32)
                            have HC129 := Aside0.mk (show y125.length ≤ c32 from by rw [hy32, hc32]; exact Nat.sub_le_sub_right hroom32 _)
                            clear hr32 hC32 hroom32 hi032 hsz32 hc32
                            have KY32 := Aside0.mk hy32
                            have KA32 := Aside0.mk hA32
                            clear hy32 hA32
                            replace q32 := eq_true q32
                            refine start_ (n := 11) (S := fun w' => w'.cell? ⟨gb107, 0, none⟩ = some (u108000) ∧ w'.cell? ⟨gb107, 1, none⟩ = some (.bool x108001_2) ∧ w'.cell? ⟨gb116, 0, none⟩ = some (.int .i32 ji17) ∧ w'.cell? ⟨gb116, 1, none⟩ = some (.int .i32 ji18)) (ds := [9]) #[false, false, false, false, false, false, false, false, false, false, false] (by kernel_rfl) rfl rfl ⟨(blk_cell BK107.out 0).trans rfl, (blk_cell BK107.out 1).trans rfl, (blk_cell BK116.out 0).trans rfl, (blk_cell BK116.out 1).trans rfl⟩ (fun hHeld => ?_); refine with_tabW glob_within.tab8 glob_within.bits8 (fun HT_ HW_ => ?_)
                            generalize w30.drew = w31 at HO_0 HO_108000 BK106 BK107 BK116 HB HO129 hHeld ⊢
                            refine pure_ (i := 0) (N := some 47) (v := ?_) (a' := ?_) #[true, false, false, false, false, false, false, false, false, false, false] rfl rfl (any_of HT_.out (by kernel_rfl)) (fun _ _ _ h => h) (Or.inl ⟨by rfl, ?_⟩) ?_ ?_
                            rotate_left
                            · intro w'
                              go_simp
                              with_reducible rfl
                            rotate_left
                            · simp only [Act.put, List.setIfInBounds_toArray, List.set_cons_zero, List.set_cons_succ, i64_w, i32_w]
                              rfl
                            refine pure_ (i := 5) (N := some 52) (v := ?_) (a' := ?_) #[true, false, false, false, false, true, false, false, false, false, false] rfl rfl (any_of HT_.out (by kernel_rfl)) (fun _ _ _ h => h) (Or.inl ⟨by rfl, ?_⟩) ?_ ?_
                            rotate_left
                            · intro w'
                              go_simp
                              with_reducible rfl
                            rotate_left
                            · simp only [Act.put, List.setIfInBounds_toArray, List.set_cons_zero, List.set_cons_succ, i64_w, i32_w]
                              rfl
                            refine pure_ (i := 6) (N := some 53) (v := ?_) (a' := ?_) #[true, false, false, false, false, true, true, false, false, false, false] rfl rfl (any_of HT_.out (by kernel_rfl)) (fun _ _ _ h => h) (Or.inl ⟨by rfl, ?_⟩) ?_ ?_
                            rotate_left
                            · intro w'
                              go_simp
                              with_reducible rfl
                            rotate_left
                            · simp only [Act.put, List.setIfInBounds_toArray, List.set_cons_zero, List.set_cons_succ, i64_w, i32_w]
                              rfl
                            refine pure_ (i := 7) (N := some 54) (v := ?_) (a' := ?_) #[true, false, false, false, false, true, true, true, false, false, false] rfl rfl (any_of HT_.out (by kernel_rfl)) (fun _ _ _ h => h) (Or.inl ⟨by rfl, ?_⟩) ?_ ?_
                            rotate_left
                            · intro w'
                              go_simp
                              with_reducible rfl
                            rotate_left
                            · simp only [Act.put, List.setIfInBounds_toArray, List.set_cons_zero, List.set_cons_succ, i64_w, i32_w]
                              rfl
                            refine take_ (i := 1) (N := some 48) (v := ?_) (a' := ?_) #[true, true, false, false, false, true, true, true, false, false, false] rfl rfl (take_ofW HT_.out HW_.out (by kernel_rfl)) (fun _ _ _ h => h) (Or.inl ⟨by rfl, ?_⟩) hHeld ?_ ?_
                            rotate_left
                            · rintro w' ⟨s0, s1, s2, s3⟩
                              go_simp
                              with_reducible rfl
                            rotate_left
                            · simp only [Act.put, List.setIfInBounds_toArray, List.set_cons_zero, List.set_cons_succ, i64_w, i32_w]
                              rfl
                            refine take_ (i := 2) (N := some 49) (v := ?_) (a' := ?_) #[true, true, true, false, false, true, true, true, false, false, false] rfl rfl (take_ofW HT_.out HW_.out (by kernel_rfl)) (fun _ _ _ h => h) (Or.inl ⟨by rfl, ?_⟩) hHeld ?_ ?_
                            rotate_left
                            · rintro w' ⟨s0, s1, s2, s3⟩
                              go_simp
                              with_reducible rfl
                            rotate_left
                            · simp only [Act.put, List.setIfInBounds_toArray, List.set_cons_zero, List.set_cons_succ, i64_w, i32_w]
                              rfl
                            refine one_ (i := 3) (N := some 50) #[true, true, true, true, false, true, true, true, false, false, false] rfl rfl (one_of HT_.out (by kernel_rfl)) (by decide) (fun K hK => ?_)
                            refine value_ (w1 := ?_) (v := ?_) (by rfl) rfl ?_ ?_
                            rotate_left 2
                            · go_simp
                              constructor
                              · rfl
                              · rfl
                            refine hK.out _ _ ⟨(blk_cell (blk_alloc BK107.out _) 0).trans rfl, (blk_cell (blk_alloc BK107.out _) 1).trans rfl, (blk_cell (blk_alloc BK116.out _) 0).trans rfl, (blk_cell (blk_alloc BK116.out _) 1).trans rfl⟩ (fun hHeld => ?_)
                            clear hK K
                            refine norm_ (a' := ?_) ?_ ?_
                            rotate_left
                            · show Act.put _ (some 50) _ = _
                              simp only [Act.put, List.setIfInBounds_toArray, List.set_cons_zero, List.set_cons_succ, i64_w, i32_w]
                              rfl
                            refine one_ (i := 4) (N := some 51) #[true, true, true, true, true, true, true, true, false, false, false] rfl rfl (one_of HT_.out (by kernel_rfl)) (by decide) (fun K hK => ?_)
                            refine Kd.R_append_step k67 (w0 := w) w.heap.size (by rfl) (.tmp 48) (.tmp 50) 55 67 (.agg #[(.int .i32 0), (.int .i32 0)]) 8 rfl Try.underlying55 info67 rfl (by decide) (by omega) u108000 x108000_2 (⟨ji17, ji18⟩ : S67) [.int .i32 ji17, .int .i32 ji18] (fun k_ => (w.heap.size ≤ k_) ∧ k_ ≠ gb116) (fun _ => False) rfl rfl ?aP (fun _ hk => hk.elim) ?aF ?aO ?aB ?aS ?aL ?_
                            (case aP => exact k67_mkM _ _ _ (⟨ji17, ji18⟩ : S67))
                            (case aB => exact (by repeat (first | (with_reducible first | exact HB.out | apply below_alloc | apply pw_below_drewN | apply below_drew1 | refine below_set ?_ GE106.out | refine below_set ?_ GE107.out | refine below_set ?_ GE116.out) | exact HB.out)))
                            (case aF => exact (fun k_ hk => ⟨(Nat.le_trans (below_size (by repeat (first | (with_reducible first | exact HB.out | apply below_alloc | apply pw_below_drewN | apply below_drew1 | refine below_set ?_ GE106.out | refine below_set ?_ GE107.out | refine below_set ?_ GE116.out) | exact HB.out))) hk), Kd.freshB (g := gb116) (o := .cells #[.int .i32 ji17, .int .i32 ji18] 67 (0, 0)) (by (with_reducible repeat (first | refine blk_drewN ?_ _ | refine blk_drew ?_ | refine blk_alloc ?_ _)); exact BK116.out) k_ hk⟩))
                            (case aO => exact (by (with_reducible repeat (first | apply Kd.R_alloc | apply Kd.R_drewN | apply Kd.R_drew)); exact HO_108000.out))
                            (case aS => exact (below_size (by repeat (first | (with_reducible first | exact HB.out | apply below_alloc | apply pw_below_drewN | apply below_drew1 | refine below_set ?_ GE106.out | refine below_set ?_ GE107.out | refine below_set ?_ GE116.out) | exact HB.out))))
                            (case aL => have := LMc19.out; omega)
                            intro v123 w33 ho hb hg hat
                            rw [← Ny122.out] at ho
                            have n0_ := Aside0.mk (Kd.V_afterv (ok := (fun k_ => (P0_ k_ ∨ w.heap.size ≤ k_) ∧ k_ ≠ gb106 ∧ k_ ≠ gb107 ∧ k_ ≠ gb116)) (by (with_reducible repeat (first | apply Kd.V_alloc | apply Kd.V_drewN | apply Kd.V_drew)); exact Kd.V_mono HO_0.out (fun _ hk => ⟨⟨hk.1, ⟨hk.2.2.1, ⟨hk.2.2.2.1, hk.2.2.2.2⟩⟩⟩, hk.2.1⟩)) hg hat)
                            have n1_ := Aside0.mk (blk_grown (g := gb106) (o := .cells #[.slice none 0 0, .bool false] 57 (0, 0)) (by (with_reducible repeat (first | refine blk_drewN ?_ _ | refine blk_drew ?_ | refine blk_alloc ?_ _)); exact BK106.out) hg (Kd.R_ne HO_108000.out BK106.out (by decide)))
                            have n2_ := Aside0.mk (blk_grown (g := gb107) (o := .cells #[u108000, .bool x108001_2] 57 (0, 0)) (by (with_reducible repeat (first | refine blk_drewN ?_ _ | refine blk_drew ?_ | refine blk_alloc ?_ _)); exact BK107.out) hg (Kd.R_ne HO_108000.out BK107.out (by decide)))
                            have n3_ := Aside0.mk (blk_grown (g := gb116) (o := .cells #[.int .i32 ji17, .int .i32 ji18] 67 (0, 0)) (by (with_reducible repeat (first | refine blk_drewN ?_ _ | refine blk_drew ?_ | refine blk_alloc ?_ _)); exact BK116.out) hg (Kd.R_away HO_108000.out (fun _ hk => hk.2)))
                            have n4_ := Aside0.mk (Kd.V_afterv (ok := (fun k_ => (P0_ k_ ∨ w.heap.size ≤ k_) ∧ k_ ≠ gb106 ∧ k_ ≠ gb107 ∧ k_ ≠ gb116)) (by (with_reducible repeat (first | apply Kd.V_alloc | apply Kd.V_drewN | apply Kd.V_drew)); exact Kd.V_mono HO129.out (fun _ hk => ⟨⟨hk.1, ⟨hk.2.2.1, ⟨hk.2.2.2.1, hk.2.2.2.2⟩⟩⟩, hk.2.1⟩)) hg hat)
                            have n5_ := Aside0.mk (hb)
                            have n6_ := Aside0.mk (ho)
                            clear HO_0
                            clear BK106
                            clear BK107
                            clear BK116
                            clear HO129
                            clear HB
                            clear HO_108000
                            have HO_0 := n0_
                            have BK106 := n1_
                            have BK107 := n2_
                            have BK116 := n3_
                            have HO129 := n4_
                            have HB := n5_
                            have HO124 := n6_
                            clear n0_ n1_ n2_ n3_ n4_ n5_ n6_
                            clear ho hb hg hat
                            obtain ⟨Ao34, co34, eo34⟩ := Kd.R_slice HO124.out
                            (first | subst eo34 | (injection eo34 with f1_ f2_ f3_; have f4_ := f1_.symm; have f5_ := f3_.symm; clear f1_ f2_ f3_; subst f4_; subst f5_))
                            refine hK.out _ _ ⟨(blk_cell BK107.out 0).trans rfl, (blk_cell BK107.out 1).trans rfl, (blk_cell BK116.out 0).trans rfl, (blk_cell BK116.out 1).trans rfl⟩ (fun hHeld => ?_)
                            clear hK K
                            refine norm_ (a' := ?_) ?_ ?_
                            rotate_left
                            · show Act.put _ (some 51) _ = _
                              simp only [Act.put, List.setIfInBounds_toArray, List.set_cons_zero, List.set_cons_succ, i64_w, i32_w]
                              rfl
                            refine pure_ (i := 8) (N := some 55) (v := ?_) (a' := ?_) #[true, true, true, true, true, true, true, true, true, false, false] rfl rfl (any_of HT_.out (by kernel_rfl)) (fun _ _ _ h => h) (Or.inl ⟨by rfl, ?_⟩) ?_ ?_
                            rotate_left
                            · intro w'
                              go_simp
                              with_reducible rfl
                            rotate_left
                            · simp only [Act.put, List.setIfInBounds_toArray, List.set_cons_zero, List.set_cons_succ, i64_w, i32_w]
                              rfl
                            refine last_ (i := 9) (N := none) #[true, true, true, true, true, true, true, true, true, true, false] rfl rfl (one_of HT_.out (by kernel_rfl)) (by decide) (fun K hK => ?_)
                            have hs35 : w33.cell? ⟨gb107, 0, none⟩ = some (u108000) := (blk_cell BK107.out 0).trans rfl
                            have hfs35 := blk_frozen BK107.out 0
                            have hns35_0 := NB106_107.out
                            have hns35_2 := NB116_107.out
                            have hms35_0 := NB107_106.out
                            have hms35_2 := NB107_116.out
                            refine skip_ (w1 := ?_) (by rfl) rfl ?_ ?_
                            rotate_left
                            · go_simp
                              rfl
                            refine hK.out _ _ ?_
                            clear hK K
                            refine pure_ (i := 10) (N := some 0) (v := ?_) (a' := ?_) #[true, true, true, true, true, true, true, true, true, true, true] rfl rfl (any_of HT_.out (by kernel_rfl)) (fun _ _ _ h => h) (Or.inl ⟨by rfl, ?_⟩) ?_ ?_
                            rotate_left
                            · intro w'
                              go_simp
                              with_reducible rfl
                            rotate_left
                            · simp only [Act.put, List.setIfInBounds_toArray, List.set_cons_zero, List.set_cons_succ, i64_w, i32_w]
                              rfl
                            refine done_ (done_of HT_.out (by kernel_rfl)) ?_
                            try go_wp2
                            go_roundg k2
                            case measure => have := HJ2.out; have := HK2.out; omega
                            case rel => exact ⟨(y125), (y122), (.slice Ao34 y122.length co34), H', ⟨by have := HJ2.out; have := HK2.out; omega⟩, ⟨by (with_reducible repeat (first | apply Kd.V_alloc | apply Kd.V_drewN | apply Kd.V_drew)); exact Kd.V_mono (Kd.V_far (p := ⟨gb107, 0, none⟩) (Kd.V_mono HO129.out (fun k_ hk => (⟨hk, hk.1.2.2.1⟩ : _ ∧ k_ ≠ gb107))) (fun _ hk => hk.2) (.slice Ao34 y122.length co34)) (fun _ hk => ⟨hk.1.1.1, ⟨hk.1.2, ⟨hk.1.1.2.1, hk.1.1.2.2.1⟩⟩⟩)⟩, ⟨by (with_reducible repeat (first | apply Kd.R_alloc | apply Kd.R_drewN | apply Kd.R_drew)); exact Kd.R_mono (Kd.R_far (p := ⟨gb107, 0, none⟩) (Kd.R_types HO124.out BK107.out (by decide)) (fun _ hk => hk.2) (.slice Ao34 y122.length co34)) (fun _ hk => hk.1.1)⟩, ⟨by (with_reducible repeat (first | refine blk_drewN ?_ _ | refine blk_drew ?_ | refine blk_alloc ?_ _)); refine blk_far ?_ NB106_107.out _; (with_reducible repeat (first | refine blk_drewN ?_ _ | refine blk_drew ?_ | refine blk_alloc ?_ _)); exact BK106.out⟩, ⟨by (with_reducible repeat (first | refine blk_drewN ?_ _ | refine blk_drew ?_ | refine blk_alloc ?_ _)); refine blk_put (cs := #[u108000, .bool x108001_2]) ?_ 0 _ rfl; (with_reducible repeat (first | refine blk_drewN ?_ _ | refine blk_drew ?_ | refine blk_alloc ?_ _)); exact BK107.out⟩, ⟨by repeat (first | (with_reducible first | exact HB.out | apply below_alloc | apply pw_below_drewN | apply below_drew1 | refine below_set ?_ GE106.out | refine below_set ?_ GE107.out | refine below_set ?_ GE116.out) | exact HB.out)⟩⟩
                          · rw [if_neg c20] at H
                            exact absurd H (by simp)
                        · rw [if_neg c19] at H
                          exact absurd H (by simp)
                      · rw [if_neg c16] at H
                        exact absurd H (by simp)
                    · rw [if_neg c15] at H
                      have c15b0 : ((rd x0_2 1) == 45) = false := beq_eq_false_iff_ne.mpr c15
                      have c15b1 : ((rd x0_2 1) != 45) = true := bne_iff_ne.mpr c15
                      by_cases c36 : x108000_2.length < 17592186044416
                      · rw [if_pos c36] at H
                        have LMc36 := Aside0.mk c36
                        clear c36
                        obtain ⟨y130, hy130⟩ : ∃ y_ : List (S67), y_ = (x108000_2 ++ [(⟨rd x0_2 0, rd x0_2 0⟩ : S67)]) := ⟨_, rfl⟩
                        replace H : (if 1 ≤ (x0_2.length : Int) then (glob_within.l0 k2 (x0_2.drop 1) y130 x108001_2) else (none)) = some (r1, r2) := by first | (rw [hy130]; with_reducible exact H) | (have H2_ := (Option.bind_some _ _).symm.trans H; rw [hy130]; with_reducible exact H2_) | (have H2_ := (Option.bind_some _ _).symm.trans H; with_reducible exact H2_) | with_reducible exact H | (rw [hy130]; exact H) | exact H
                        have Ny130 := Aside0.mk hy130
                        clear hy130
                        by_cases c37 : 1 ≤ (x0_2.length : Int)
                        · rw [if_pos c37] at H
                          have c37b0 := eq_true c37
                          have c37b1 : decide (1 ≤ (x0_2.length : Int)) = true := decide_eq_true c37
                          clear c37
                          obtain ⟨y133, hy133⟩ : ∃ y_ : List Int, y_ = (x0_2.drop 1) := ⟨_, rfl⟩
                          replace H : (glob_within.l0 k2 y133 y130 x108001_2) = some (r1, r2) := by first | (rw [hy133]; with_reducible exact H) | (have H2_ := (Option.bind_some _ _).symm.trans H; rw [hy133]; with_reducible exact H2_) | (have H2_ := (Option.bind_some _ _).symm.trans H; with_reducible exact H2_) | with_reducible exact H | (rw [hy133]; exact H) | exact H
                          have Ny133 := Aside0.mk hy133
                          clear hy133
                          have H' := Aside0.mk H
                          clear H
                          obtain ⟨Ao38, co38, eo38⟩ := Kd.V_slice HO_0.out
                          subst eo38
                          try go_wp2
                          have n0_ := Aside0.mk (Kd.V_drew HO_0.out)
                          have n1_ := Aside0.mk (Kd.R_drew HO_108000.out)
                          have n2_ := Aside0.mk (blk_drew BK106.out)
                          have n3_ := Aside0.mk (blk_drew BK107.out)
                          have n4_ := Aside0.mk (below_drew1 HB.out)
                          clear HO_0
                          clear HO_108000
                          clear BK106
                          clear BK107
                          clear HB
                          have HO_0 := n0_
                          have HO_108000 := n1_
                          have BK106 := n2_
                          have BK107 := n3_
                          have HB := n4_
                          clear n0_ n1_ n2_ n3_ n4_
                          have p114 : 0 ≤ (0 : Int) := (by omega)
                          have q114 : 0 < (x0_2.length : Int) := of_decide_eq_true (by first | (with_reducible assumption) | assumption)
                          obtain ⟨ad114, e114, hx114_0⟩ := Kd.at_int (Kd.V_reads' HO_0.out).2.2 0 p114 q114
                          cases e114
                          have qi114 : (0 < x0_2.length) = True := eq_true (by omega)
                          (try rw [show ((0 : Int)).toNat = 0 from rfl] at hx114_0)
                          (try rw [Addr.add_zero'] at hx114_0)
                          replace p114 := eq_true p114
                          replace q114 := eq_true q114
                          have p115 : 0 ≤ (0 : Int) := (by omega)
                          have q115 : 0 < (x0_2.length : Int) := of_decide_eq_true (by first | (with_reducible assumption) | assumption)
                          obtain ⟨ad115, e115, hx115_0⟩ := Kd.at_int (Kd.V_reads' HO_0.out).2.2 0 p115 q115
                          obtain rfl : ad114 = ad115 := (by injection e115)
                          have qi115 : (0 < x0_2.length) = True := eq_true (by omega)
                          (try rw [show ((0 : Int)).toNat = 0 from rfl] at hx115_0)
                          (try rw [Addr.add_zero'] at hx115_0)
                          replace p115 := eq_true p115
                          replace q115 := eq_true q115
                          refine start_ (n := 10) (S := fun w' => w'.cell? ad114 = some (.int .i32 (rd x0_2 0)) ∧ w'.cell? ad114 = some (.int .i32 (rd x0_2 0))) (ds := []) #[false, false, false, false, false, false, false, false, false, false] (by kernel_rfl) rfl rfl ⟨hx114_0, hx115_0⟩ (fun hHeld => ?_); refine with_tabW glob_within.tab5 glob_within.bits5 (fun HT_ HW_ => ?_)
                          generalize wr.drew = w39 at HO_0 HO_108000 BK106 BK107 HB hx114_0 hx115_0 hHeld ⊢
                          refine pure_ (i := 0) (N := some 16) (v := ?_) (a' := ?_) #[true, false, false, false, false, false, false, false, false, false] rfl rfl (any_of HT_.out (by kernel_rfl)) (fun _ _ _ h => h) (Or.inl ⟨by rfl, ?_⟩) ?_ ?_
                          rotate_left
                          · intro w'
                            go_simp
                            with_reducible rfl
                          rotate_left
                          · simp only [Act.put, List.setIfInBounds_toArray, List.set_cons_zero, List.set_cons_succ, i64_w, i32_w]
                            rfl
                          refine pure_ (i := 1) (N := some 17) (v := ?_) (a' := ?_) #[true, true, false, false, false, false, false, false, false, false] rfl rfl (any_of HT_.out (by kernel_rfl)) (fun _ _ _ h => h) (Or.inl ⟨by rfl, ?_⟩) ?_ ?_
                          rotate_left
                          · intro w'
                            go_simp
                            with_reducible rfl
                          rotate_left
                          · simp only [Act.put, List.setIfInBounds_toArray, List.set_cons_zero, List.set_cons_succ, i64_w, i32_w]
                            rfl
                          refine pure_ (i := 3) (N := some 19) (v := ?_) (a' := ?_) #[true, true, false, true, false, false, false, false, false, false] rfl rfl (any_of HT_.out (by kernel_rfl)) (fun _ _ _ h => h) (Or.inl ⟨by rfl, ?_⟩) ?_ ?_
                          rotate_left
                          · intro w'
                            go_simp
                            with_reducible rfl
                          rotate_left
                          · simp only [Act.put, List.setIfInBounds_toArray, List.set_cons_zero, List.set_cons_succ, i64_w, i32_w]
                            rfl
                          refine pure_ (i := 4) (N := some 20) (v := ?_) (a' := ?_) #[true, true, false, true, true, false, false, false, false, false] rfl rfl (any_of HT_.out (by kernel_rfl)) (fun _ _ _ h => h) (Or.inl ⟨by rfl, ?_⟩) ?_ ?_
                          rotate_left
                          · intro w'
                            go_simp
                            with_reducible rfl
                          rotate_left
                          · simp only [Act.put, List.setIfInBounds_toArray, List.set_cons_zero, List.set_cons_succ, i64_w, i32_w]
                            rfl
                          refine take_ (i := 2) (N := some 18) (v := ?_) (a' := ?_) #[true, true, true, true, true, false, false, false, false, false] rfl rfl (take_ofW HT_.out HW_.out (by kernel_rfl)) (fun _ _ _ h => h) (Or.inl ⟨by rfl, ?_⟩) hHeld ?_ ?_
                          rotate_left
                          · rintro w' ⟨s0, s1⟩
                            go_simp
                            with_reducible rfl
                          rotate_left
                          · simp only [Act.put, List.setIfInBounds_toArray, List.set_cons_zero, List.set_cons_succ, i64_w, i32_w]
                            rfl
                          refine take_ (i := 5) (N := some 21) (v := ?_) (a' := ?_) #[true, true, true, true, true, true, false, false, false, false] rfl rfl (take_ofW HT_.out HW_.out (by kernel_rfl)) (fun _ _ _ h => h) (Or.inl ⟨by rfl, ?_⟩) hHeld ?_ ?_
                          rotate_left
                          · rintro w' ⟨s0, s1⟩
                            go_simp
                            with_reducible rfl
                          rotate_left
                          · simp only [Act.put, List.setIfInBounds_toArray, List.set_cons_zero, List.set_cons_succ, i64_w, i32_w]
                            rfl
                          refine pure_ (i := 6) (N := some 22) (v := ?_) (a' := ?_) #[true, true, true, true, true, true, true, false, false, false] rfl rfl (any_of HT_.out (by kernel_rfl)) (fun _ _ _ h => h) (Or.inl ⟨by rfl, ?_⟩) ?_ ?_
                          rotate_left
                          · intro w'
                            go_simp
                            with_reducible rfl
                          rotate_left
                          · simp only [Act.put, List.setIfInBounds_toArray, List.set_cons_zero, List.set_cons_succ, i64_w, i32_w]
                            rfl
                          refine one_ (i := 7) (N := some 4) #[true, true, true, true, true, true, true, true, false, false] rfl rfl (one_of HT_.out (by kernel_rfl)) (by decide) (fun K hK => ?_)
                          refine box_step ?hg (N := 4) ?hd (cs := #[.int .i32 0, .int .i32 0]) (t := 67) ?hr ?_; (case hd => rfl); (case hg => rfl); (case hr => first | (go_simp; done) | (go_simp; rfl))
                          intro gb116 hg w40 hbox hb
                          have HS0_ := (hb.cell (World.block_lt_of_cell? _ _ (hHeld.1))).trans (hHeld.1)
                          have HS1_ := (hb.cell (World.block_lt_of_cell? _ _ (hHeld.2))).trans (hHeld.2)
                          have n0_ := Aside0.mk (Kd.V_below (Kd.V_elderB (by (with_reducible repeat (first | apply Kd.V_alloc | apply Kd.V_drewN | apply Kd.V_drew)); exact HO_0.out) gb116 (Nat.le_of_eq hg.symm)) hb)
                          have n1_ := Aside0.mk (Kd.R_below (Kd.R_elderB (by (with_reducible repeat (first | apply Kd.R_alloc | apply Kd.R_drewN | apply Kd.R_drew)); exact HO_108000.out) gb116 (Nat.le_of_eq hg.symm)) hb)
                          have n2_ := Aside0.mk (blk_below (g := gb106) (o := .cells #[.slice none 0 0, .bool false] 57 (0, 0)) (by (with_reducible repeat (first | refine blk_drewN ?_ _ | refine blk_drew ?_ | refine blk_alloc ?_ _)); exact BK106.out) hb)
                          have n3_ := Aside0.mk (blk_below (g := gb107) (o := .cells #[u108000, .bool x108001_2] 57 (0, 0)) (by (with_reducible repeat (first | refine blk_drewN ?_ _ | refine blk_drew ?_ | refine blk_alloc ?_ _)); exact BK107.out) hb)
                          have n4_ := Aside0.mk (below_step (by repeat (first | (with_reducible first | exact HB.out | apply below_alloc | apply pw_below_drewN | apply below_drew1 | refine below_set ?_ GE106.out | refine below_set ?_ GE107.out) | exact HB.out)) hb)
                          have n5_ := Aside0.mk (hbox)
                          have n6_ := Aside0.mk ((by rw [hg]; exact (below_size (by repeat (first | (with_reducible first | exact HB.out | apply below_alloc | apply pw_below_drewN | apply below_drew1 | refine below_set ?_ GE106.out | refine below_set ?_ GE107.out) | exact HB.out))) : w.heap.size ≤ gb116))
                          have n7_ := Aside0.mk ((by rw [hg]; exact (below_size (by repeat (first | (with_reducible first | exact HB.out | apply below_alloc | apply pw_below_drewN | apply below_drew1 | refine below_set ?_ GE106.out | refine below_set ?_ GE107.out) | exact HB.out))) : w.heap.size ≤ gb116))
                          have n8_ := Aside0.mk ((by rw [hg]; exact Nat.ne_of_lt (blk_lt (g := gb106) (o := .cells #[.slice none 0 0, .bool false] 57 (0, 0)) (by (with_reducible repeat (first | refine blk_drewN ?_ _ | refine blk_drew ?_ | refine blk_alloc ?_ _)); exact BK106.out)) : gb106 ≠ gb116))
                          have n9_ := Aside0.mk ((by rw [hg]; exact Nat.ne_of_gt (blk_lt (g := gb106) (o := .cells #[.slice none 0 0, .bool false] 57 (0, 0)) (by (with_reducible repeat (first | refine blk_drewN ?_ _ | refine blk_drew ?_ | refine blk_alloc ?_ _)); exact BK106.out)) : gb116 ≠ gb106))
                          have n10_ := Aside0.mk ((by rw [hg]; exact Nat.ne_of_lt (blk_lt (g := gb107) (o := .cells #[u108000, .bool x108001_2] 57 (0, 0)) (by (with_reducible repeat (first | refine blk_drewN ?_ _ | refine blk_drew ?_ | refine blk_alloc ?_ _)); exact BK107.out)) : gb107 ≠ gb116))
                          have n11_ := Aside0.mk ((by rw [hg]; exact Nat.ne_of_gt (blk_lt (g := gb107) (o := .cells #[u108000, .bool x108001_2] 57 (0, 0)) (by (with_reducible repeat (first | refine blk_drewN ?_ _ | refine blk_drew ?_ | refine blk_alloc ?_ _)); exact BK107.out)) : gb116 ≠ gb107))
                          clear HO_0
                          clear HO_108000
                          clear BK106
                          clear BK107
                          clear HB
                          have HO_0 := n0_
                          have HO_108000 := n1_
                          have BK106 := n2_
                          have BK107 := n3_
                          have HB := n4_
                          have BK116 := n5_
                          have GW116 := n6_
                          have GE116 := n7_
                          have NB106_116 := n8_
                          have NB116_106 := n9_
                          have NB107_116 := n10_
                          have NB116_107 := n11_
                          clear n0_ n1_ n2_ n3_ n4_ n5_ n6_ n7_ n8_ n9_ n10_ n11_
                          clear hb hbox hg
                          refine hK.out _ _ ⟨HS0_, HS1_⟩ (fun hHeld => ?_)
                          clear hK K
                          refine norm_ (a' := ?_) ?_ ?_
                          rotate_left
                          · show Act.put _ (some 4) _ = _
                            simp only [Act.put, List.setIfInBounds_toArray, List.set_cons_zero, List.set_cons_succ, i64_w, i32_w]
                            rfl
                          refine one_ (i := 8) (N := none) #[true, true, true, true, true, true, true, true, true, false] rfl rfl (one_of HT_.out (by kernel_rfl)) (by decide) (fun K hK => ?_)
                          have hs41 : w40.cell? ⟨gb116, 0, none⟩ = some (.int .i32 0) := (blk_cell BK116.out 0).trans rfl
                          have hfs41 := blk_frozen BK116.out 0
                          have hns41_0 := NB106_116.out
                          have hns41_1 := NB107_116.out
                          have hms41_0 := NB116_106.out
                          have hms41_1 := NB116_107.out
                          have hs42 : w40.cell? ⟨gb116, 1, none⟩ = some (.int .i32 0) := (blk_cell BK116.out 1).trans rfl
                          have hfs42 := blk_frozen BK116.out 1
                          have hns42_0 := NB106_116.out
                          have hns42_1 := NB107_116.out
                          have hms42_0 := NB116_106.out
                          have hms42_1 := NB116_107.out
                          refine skip_ (w1 := ?_) (by rfl) rfl ?_ ?_
                          rotate_left
                          · go_simp
                            rfl
                          refine hK.out _ _ ⟨((cell_far (p := ⟨gb116, _, none⟩) (by first | exact row_away HO_0.out (fun _ hk => hk.2) | (rw [add_block]; exact row_away HO_0.out (fun _ hk => hk.2)) | (show (Addr.add _ _).block ≠ _; rw [add_block]; exact row_away HO_0.out (fun _ hk => hk.2)) | (dsimp only; exact row_away HO_0.out (fun _ hk => hk.2))) _).trans (((cell_far (p := ⟨gb116, _, none⟩) (by first | exact row_away HO_0.out (fun _ hk => hk.2) | (rw [add_block]; exact row_away HO_0.out (fun _ hk => hk.2)) | (show (Addr.add _ _).block ≠ _; rw [add_block]; exact row_away HO_0.out (fun _ hk => hk.2)) | (dsimp only; exact row_away HO_0.out (fun _ hk => hk.2))) _).trans (hHeld.1)))), ((cell_far (p := ⟨gb116, _, none⟩) (by first | exact row_away HO_0.out (fun _ hk => hk.2) | (rw [add_block]; exact row_away HO_0.out (fun _ hk => hk.2)) | (show (Addr.add _ _).block ≠ _; rw [add_block]; exact row_away HO_0.out (fun _ hk => hk.2)) | (dsimp only; exact row_away HO_0.out (fun _ hk => hk.2))) _).trans (((cell_far (p := ⟨gb116, _, none⟩) (by first | exact row_away HO_0.out (fun _ hk => hk.2) | (rw [add_block]; exact row_away HO_0.out (fun _ hk => hk.2)) | (show (Addr.add _ _).block ≠ _; rw [add_block]; exact row_away HO_0.out (fun _ hk => hk.2)) | (dsimp only; exact row_away HO_0.out (fun _ hk => hk.2))) _).trans (hHeld.2))))⟩ (fun hHeld => ?_)
                          clear hK K
                          refine pure_ (i := 9) (N := some 5) (v := ?_) (a' := ?_) #[true, true, true, true, true, true, true, true, true, true] rfl rfl (any_of HT_.out (by kernel_rfl)) (fun _ _ _ h => h) (Or.inl ⟨by rfl, ?_⟩) ?_ ?_
                          rotate_left
                          · intro w'
                            go_simp
                            with_reducible rfl
                          rotate_left
                          · simp only [Act.put, List.setIfInBounds_toArray, List.set_cons_zero, List.set_cons_succ, i64_w, i32_w]
                            rfl
                          refine done_ (done_of HT_.out (by kernel_rfl)) ?_
                          have p117 : 0 ≤ (1 : Int) := (by omega)
                          have q117 : 1 < (x0_2.length : Int) := of_decide_eq_true (by first | (with_reducible assumption) | assumption)
                          obtain ⟨ad117, e117, hx117_0⟩ := Kd.at_int (Kd.V_reads' HO_0.out).2.2 1 p117 q117
                          obtain rfl : ad114 = ad117 := (by injection e117)
                          (try simp only [show (1 : Int).toNat = 1 from rfl, Nat.reduceMul, Nat.reduceEqDiff, Go.Addr.add, ↓reduceIte] at hx117_0)
                          have qi117 : (1 < x0_2.length) = True := eq_true (by omega)
                          (try rw [show ((1 : Int)).toNat = 1 from rfl] at hx117_0)
                          have hn117_0 : ad114.block ≠ gb116 := row_away HO_0.out (by intro _ hk; first | exact hk.2 | exact hk.2.2 | exact hk.2.2.2 | exact hk.2.2.2.2 | exact hk.1.2)
                          have hn117_1 : ad114.block ≠ gb116 := row_away HO_0.out (by intro _ hk; first | exact hk.2 | exact hk.2.2 | exact hk.2.2.2 | exact hk.2.2.2.2 | exact hk.1.2)
                          replace hx117_0 := (cell_far (p := ⟨gb116, 0, none⟩) (by first | (rw [add_block]; exact hn117_0) | (show (Addr.add _ _).block ≠ _; rw [add_block]; exact hn117_0) | exact hn117_0) (.int .i32 (rd x0_2 0))).trans hx117_0
                          replace hx117_0 := (cell_far (p := ⟨gb116, 1, none⟩) (by first | (rw [add_block]; exact hn117_1) | (show (Addr.add _ _).block ≠ _; rw [add_block]; exact hn117_1) | exact hn117_1) (.int .i32 (rd x0_2 0))).trans hx117_0
                          clear hn117_0
                          clear hn117_1
                          replace p117 := eq_true p117
                          replace q117 := eq_true q117
                          try go_wp2
                          have n0_ : Aside0 (Kd.V (Kd.int .i32) 21 ((w40.setCell ⟨gb116, 0, none⟩ (.int .i32 (rd x0_2 0))).setCell ⟨gb116, 1, none⟩ (.int .i32 (rd x0_2 0))) w.heap.size (fun k_ => (P0_ k_ ∨ w.heap.size ≤ k_) ∧ some k_ ≠ (u108000 : Value).ownBlock ∧ k_ ≠ gb106 ∧ k_ ≠ gb107 ∧ k_ ≠ gb116) (.slice (some ad114) x0_2.length co38) x0_2) := ⟨by (with_reducible repeat (first | apply Kd.V_alloc | apply Kd.V_drewN | apply Kd.V_drew)); exact Kd.V_mono (Kd.V_far (p := ⟨gb116, 1, none⟩) (Kd.V_far (p := ⟨gb116, 0, none⟩) (Kd.V_mono HO_0.out (fun k_ hk => (⟨hk, hk.2⟩ : _ ∧ k_ ≠ gb116))) (fun _ hk => hk.2) (.int .i32 (rd x0_2 0))) (fun _ hk => hk.2) (.int .i32 (rd x0_2 0))) (fun _ hk => ⟨hk.1.1.1, ⟨hk.1.1.2.1, ⟨hk.1.1.2.2.1, ⟨hk.1.1.2.2.2, hk.1.2⟩⟩⟩⟩)⟩
                          have n1_ : Aside0 (Kd.R k67 67 ((w40.setCell ⟨gb116, 0, none⟩ (.int .i32 (rd x0_2 0))).setCell ⟨gb116, 1, none⟩ (.int .i32 (rd x0_2 0))) w.heap.size (fun k_ => (w.heap.size ≤ k_) ∧ k_ ≠ gb116) u108000 x108000_2) := ⟨by (with_reducible repeat (first | apply Kd.R_alloc | apply Kd.R_drewN | apply Kd.R_drew)); exact Kd.R_mono (Kd.R_far (p := ⟨gb116, 1, none⟩) (Kd.R_far (p := ⟨gb116, 0, none⟩) (Kd.R_mono HO_108000.out (fun k_ hk => (⟨hk, hk.2⟩ : _ ∧ k_ ≠ gb116))) (fun _ hk => hk.2) (.int .i32 (rd x0_2 0))) (fun _ hk => hk.2) (.int .i32 (rd x0_2 0))) (fun _ hk => ⟨hk.1.1, hk.1.2⟩)⟩
                          have n2_ : Aside0 (((w40.setCell ⟨gb116, 0, none⟩ (.int .i32 (rd x0_2 0))).setCell ⟨gb116, 1, none⟩ (.int .i32 (rd x0_2 0))).heap[gb106]? = some (.cells #[.slice none 0 0, .bool false] 57 (0, 0))) := ⟨by (with_reducible repeat (first | refine blk_drewN ?_ _ | refine blk_drew ?_ | refine blk_alloc ?_ _)); refine blk_far ?_ NB106_116.out _; (with_reducible repeat (first | refine blk_drewN ?_ _ | refine blk_drew ?_ | refine blk_alloc ?_ _)); refine blk_far ?_ NB106_116.out _; (with_reducible repeat (first | refine blk_drewN ?_ _ | refine blk_drew ?_ | refine blk_alloc ?_ _)); exact BK106.out⟩
                          have n3_ : Aside0 (((w40.setCell ⟨gb116, 0, none⟩ (.int .i32 (rd x0_2 0))).setCell ⟨gb116, 1, none⟩ (.int .i32 (rd x0_2 0))).heap[gb107]? = some (.cells #[u108000, .bool x108001_2] 57 (0, 0))) := ⟨by (with_reducible repeat (first | refine blk_drewN ?_ _ | refine blk_drew ?_ | refine blk_alloc ?_ _)); refine blk_far ?_ NB107_116.out _; (with_reducible repeat (first | refine blk_drewN ?_ _ | refine blk_drew ?_ | refine blk_alloc ?_ _)); refine blk_far ?_ NB107_116.out _; (with_reducible repeat (first | refine blk_drewN ?_ _ | refine blk_drew ?_ | refine blk_alloc ?_ _)); exact BK107.out⟩
                          have n4_ : Aside0 (((w40.setCell ⟨gb116, 0, none⟩ (.int .i32 (rd x0_2 0))).setCell ⟨gb116, 1, none⟩ (.int .i32 (rd x0_2 0))).heap[gb116]? = some (.cells #[.int .i32 (rd x0_2 0), .int .i32 (rd x0_2 0)] 67 (0, 0))) := ⟨by (with_reducible repeat (first | refine blk_drewN ?_ _ | refine blk_drew ?_ | refine blk_alloc ?_ _)); refine blk_put (cs := #[.int .i32 (rd x0_2 0), .int .i32 0]) ?_ 1 _ rfl; (with_reducible repeat (first | refine blk_drewN ?_ _ | refine blk_drew ?_ | refine blk_alloc ?_ _)); refine blk_put (cs := #[.int .i32 0, .int .i32 0]) ?_ 0 _ rfl; (with_reducible repeat (first | refine blk_drewN ?_ _ | refine blk_drew ?_ | refine blk_alloc ?_ _)); exact BK116.out⟩
                          have n5_ : Aside0 (Below w.heap.size w ((w40.setCell ⟨gb116, 0, none⟩ (.int .i32 (rd x0_2 0))).setCell ⟨gb116, 1, none⟩ (.int .i32 (rd x0_2 0)))) := ⟨by repeat (first | (with_reducible first | exact HB.out | apply below_alloc | apply pw_below_drewN | apply below_drew1 | refine below_set ?_ GE106.out | refine below_set ?_ GE107.out | refine below_set ?_ GE116.out) | exact HB.out)⟩
                          (try clear HO_0)
                          (try clear HO_108000)
                          (try clear BK106)
                          (try clear BK107)
                          (try clear BK116)
                          (try clear HB)
                          generalize ((w40.setCell ⟨gb116, 0, none⟩ (.int .i32 (rd x0_2 0))).setCell ⟨gb116, 1, none⟩ (.int .i32 (rd x0_2 0))) = w43 at n0_ n1_ n2_ n3_ n4_ n5_ ⊢
                          have HO_0 := n0_
                          have HO_108000 := n1_
                          have BK106 := n2_
                          have BK107 := n3_
                          have BK116 := n4_
                          have HB := n5_
                          clear n0_ n1_ n2_ n3_ n4_ n5_
                          have n0_ := Aside0.mk (Kd.V_drew HO_0.out)
                          have n1_ := Aside0.mk (Kd.R_drew HO_108000.out)
                          have n2_ := Aside0.mk (blk_drew BK106.out)
                          have n3_ := Aside0.mk (blk_drew BK107.out)
                          have n4_ := Aside0.mk (blk_drew BK116.out)
                          have n5_ := Aside0.mk (below_drew1 HB.out)
                          clear HO_0
                          clear HO_108000
                          clear BK106
                          clear BK107
                          clear BK116
                          clear HB
                          have HO_0 := n0_
                          have HO_108000 := n1_
                          have BK106 := n2_
                          have BK107 := n3_
                          have BK116 := n4_
                          have HB := n5_
                          clear n0_ n1_ n2_ n3_ n4_ n5_
                          have q45 : (1 : Int) ≤ ((x0_2.length : Int) : Int) := of_decide_eq_true (by first | (with_reducible assumption) | assumption)
                          obtain ⟨i045, hi045, _, hsz45, _⟩ := info_parts info21
                          have hroom45 : x0_2.length ≤ co38 := (Kd.V_reads' HO_0.out).2.1
                          have hC45 : Kd.F (Kd.int .i32) _ _ (some ad114) x0_2.length x0_2 := (Kd.V_at (base := w.heap.size) HO_0.out).2.2
                          have hcut45 := cut_from (P := Try.prog) 31 21 .i64 Try.underlying31 hi045 1 hsz45 (some ad114) x0_2.length co38 1 (by omega) q45
                          have hr45 := Kd.F_cut (m := (1 : Int).toNat) (c := co38) hC45 (by omega) hroom45
                          obtain ⟨A45, hA45⟩ : ∃ A1, A1 = (if co38 = (1 : Int).toNat then (some ad114) else ((some ad114) : Option Addr).map (·.add ((1 : Int).toNat * 1))) := ⟨_, rfl⟩
                          obtain ⟨c45, hc45⟩ : ∃ c1, c1 = co38 - (1 : Int).toNat := ⟨_, rfl⟩
                          have hy45 : y133.length = x0_2.length - (1 : Int).toNat := (by rw [Ny133.out, List.length_drop] <;> omega)
                          rw [show (x0_2).drop (1 : Int).toNat = y133 from Ny133.out.symm] at hr45
                          replace hr45 : Kd.F (Kd.int .i32) _ _ A45 y133.length y133 := (by rw [hA45]; exact hr45)
                          rw [← hy45, ← hA45, ← hc45] at hcut45
                          have HO137 := Aside0.mk (show Kd.V (Kd.int .i32) 21 _ w.heap.size _ (.slice A45 y133.length c45) y133 from Kd.V_mk (by rw [hy45, hc45]; exact Nat.sub_le_sub_right hroom45 _) hr45)
                          have HC137 := Aside0.mk (show y133.length ≤ c45 from by rw [hy45, hc45]; exact Nat.sub_le_sub_right hroom45 _)
                          clear hr45 hC45 hroom45 hi045 hsz45 hc45
                          have KY45 := Aside0.mk hy45
                          have KA45 := Aside0.mk hA45
                          clear hy45 hA45
                          replace q45 := eq_true q45
                          refine start_ (n := 11) (S := fun w' => w'.cell? ⟨gb107, 0, none⟩ = some (u108000) ∧ w'.cell? ⟨gb107, 1, none⟩ = some (.bool x108001_2) ∧ w'.cell? ⟨gb116, 0, none⟩ = some (.int .i32 (rd x0_2 0)) ∧ w'.cell? ⟨gb116, 1, none⟩ = some (.int .i32 (rd x0_2 0))) (ds := [9]) #[false, false, false, false, false, false, false, false, false, false, false] (by kernel_rfl) rfl rfl ⟨(blk_cell BK107.out 0).trans rfl, (blk_cell BK107.out 1).trans rfl, (blk_cell BK116.out 0).trans rfl, (blk_cell BK116.out 1).trans rfl⟩ (fun hHeld => ?_); refine with_tabW glob_within.tab8 glob_within.bits8 (fun HT_ HW_ => ?_)
                          generalize w43.drew = w44 at HO_0 HO_108000 BK106 BK107 BK116 HB HO137 hHeld ⊢
                          refine pure_ (i := 0) (N := some 47) (v := ?_) (a' := ?_) #[true, false, false, false, false, false, false, false, false, false, false] rfl rfl (any_of HT_.out (by kernel_rfl)) (fun _ _ _ h => h) (Or.inl ⟨by rfl, ?_⟩) ?_ ?_
                          rotate_left
                          · intro w'
                            go_simp
                            with_reducible rfl
                          rotate_left
                          · simp only [Act.put, List.setIfInBounds_toArray, List.set_cons_zero, List.set_cons_succ, i64_w, i32_w]
                            rfl
                          refine pure_ (i := 5) (N := some 52) (v := ?_) (a' := ?_) #[true, false, false, false, false, true, false, false, false, false, false] rfl rfl (any_of HT_.out (by kernel_rfl)) (fun _ _ _ h => h) (Or.inl ⟨by rfl, ?_⟩) ?_ ?_
                          rotate_left
                          · intro w'
                            go_simp
                            with_reducible rfl
                          rotate_left
                          · simp only [Act.put, List.setIfInBounds_toArray, List.set_cons_zero, List.set_cons_succ, i64_w, i32_w]
                            rfl
                          refine pure_ (i := 6) (N := some 53) (v := ?_) (a' := ?_) #[true, false, false, false, false, true, true, false, false, false, false] rfl rfl (any_of HT_.out (by kernel_rfl)) (fun _ _ _ h => h) (Or.inl ⟨by rfl, ?_⟩) ?_ ?_
                          rotate_left
                          · intro w'
                            go_simp
                            with_reducible rfl
                          rotate_left
                          · simp only [Act.put, List.setIfInBounds_toArray, List.set_cons_zero, List.set_cons_succ, i64_w, i32_w]
                            rfl
                          refine pure_ (i := 7) (N := some 54) (v := ?_) (a' := ?_) #[true, false, false, false, false, true, true, true, false, false, false] rfl rfl (any_of HT_.out (by kernel_rfl)) (fun _ _ _ h => h) (Or.inl ⟨by rfl, ?_⟩) ?_ ?_
                          rotate_left
                          · intro w'
                            go_simp
                            with_reducible rfl
                          rotate_left
                          · simp only [Act.put, List.setIfInBounds_toArray, List.set_cons_zero, List.set_cons_succ, i64_w, i32_w]
                            rfl
                          refine take_ (i := 1) (N := some 48) (v := ?_) (a' := ?_) #[true, true, false, false, false, true, true, true, false, false, false] rfl rfl (take_ofW HT_.out HW_.out (by kernel_rfl)) (fun _ _ _ h => h) (Or.inl ⟨by rfl, ?_⟩) hHeld ?_ ?_
                          rotate_left
                          · rintro w' ⟨s0, s1, s2, s3⟩
                            go_simp
                            with_reducible rfl
                          rotate_left
                          · simp only [Act.put, List.setIfInBounds_toArray, List.set_cons_zero, List.set_cons_succ, i64_w, i32_w]
                            rfl
                          refine take_ (i := 2) (N := some 49) (v := ?_) (a' := ?_) #[true, true, true, false, false, true, true, true, false, false, false] rfl rfl (take_ofW HT_.out HW_.out (by kernel_rfl)) (fun _ _ _ h => h) (Or.inl ⟨by rfl, ?_⟩) hHeld ?_ ?_
                          rotate_left
                          · rintro w' ⟨s0, s1, s2, s3⟩
                            go_simp
                            with_reducible rfl
                          rotate_left
                          · simp only [Act.put, List.setIfInBounds_toArray, List.set_cons_zero, List.set_cons_succ, i64_w, i32_w]
                            rfl
                          refine one_ (i := 3) (N := some 50) #[true, true, true, true, false, true, true, true, false, false, false] rfl rfl (one_of HT_.out (by kernel_rfl)) (by decide) (fun K hK => ?_)
                          refine value_ (w1 := ?_) (v := ?_) (by rfl) rfl ?_ ?_
                          rotate_left 2
                          · go_simp
                            constructor
                            · rfl
                            · rfl
                          refine hK.out _ _ ⟨(blk_cell (blk_alloc BK107.out _) 0).trans rfl, (blk_cell (blk_alloc BK107.out _) 1).trans rfl, (blk_cell (blk_alloc BK116.out _) 0).trans rfl, (blk_cell (blk_alloc BK116.out _) 1).trans rfl⟩ (fun hHeld => ?_)
                          clear hK K
                          refine norm_ (a' := ?_) ?_ ?_
                          rotate_left
                          · show Act.put _ (some 50) _ = _
                            simp only [Act.put, List.setIfInBounds_toArray, List.set_cons_zero, List.set_cons_succ, i64_w, i32_w]
                            rfl
                          refine one_ (i := 4) (N := some 51) #[true, true, true, true, true, true, true, true, false, false, false] rfl rfl (one_of HT_.out (by kernel_rfl)) (by decide) (fun K hK => ?_)
                          refine Kd.R_append_step k67 (w0 := w) w.heap.size (by rfl) (.tmp 48) (.tmp 50) 55 67 (.agg #[(.int .i32 0), (.int .i32 0)]) 8 rfl Try.underlying55 info67 rfl (by decide) (by omega) u108000 x108000_2 (⟨rd x0_2 0, rd x0_2 0⟩ : S67) [.int .i32 (rd x0_2 0), .int .i32 (rd x0_2 0)] (fun k_ => (w.heap.size ≤ k_) ∧ k_ ≠ gb116) (fun _ => False) rfl rfl ?aP (fun _ hk => hk.elim) ?aF ?aO ?aB ?aS ?aL ?_
                          (case aP => exact k67_mkM _ _ _ (⟨rd x0_2 0, rd x0_2 0⟩ : S67))
                          (case aB => exact (by repeat (first | (with_reducible first | exact HB.out | apply below_alloc | apply pw_below_drewN | apply below_drew1 | refine below_set ?_ GE106.out | refine below_set ?_ GE107.out | refine below_set ?_ GE116.out) | exact HB.out)))
                          (case aF => exact (fun k_ hk => ⟨(Nat.le_trans (below_size (by repeat (first | (with_reducible first | exact HB.out | apply below_alloc | apply pw_below_drewN | apply below_drew1 | refine below_set ?_ GE106.out | refine below_set ?_ GE107.out | refine below_set ?_ GE116.out) | exact HB.out))) hk), Kd.freshB (g := gb116) (o := .cells #[.int .i32 (rd x0_2 0), .int .i32 (rd x0_2 0)] 67 (0, 0)) (by (with_reducible repeat (first | refine blk_drewN ?_ _ | refine blk_drew ?_ | refine blk_alloc ?_ _)); exact BK116.out) k_ hk⟩))
                          (case aO => exact (by (with_reducible repeat (first | apply Kd.R_alloc | apply Kd.R_drewN | apply Kd.R_drew)); exact HO_108000.out))
                          (case aS => exact (below_size (by repeat (first | (with_reducible first | exact HB.out | apply below_alloc | apply pw_below_drewN | apply below_drew1 | refine below_set ?_ GE106.out | refine below_set ?_ GE107.out | refine below_set ?_ GE116.out) | exact HB.out))))
                          (case aL => have := LMc36.out; omega)
                          intro v131 w46 ho hb hg hat
                          rw [← Ny130.out] at ho
                          have n0_ := Aside0.mk (Kd.V_afterv (ok := (fun k_ => (P0_ k_ ∨ w.heap.size ≤ k_) ∧ k_ ≠ gb106 ∧ k_ ≠ gb107 ∧ k_ ≠ gb116)) (by (with_reducible repeat (first | apply Kd.V_alloc | apply Kd.V_drewN | apply Kd.V_drew)); exact Kd.V_mono HO_0.out (fun _ hk => ⟨⟨hk.1, ⟨hk.2.2.1, ⟨hk.2.2.2.1, hk.2.2.2.2⟩⟩⟩, hk.2.1⟩)) hg hat)
                          have n1_ := Aside0.mk (blk_grown (g := gb106) (o := .cells #[.slice none 0 0, .bool false] 57 (0, 0)) (by (with_reducible repeat (first | refine blk_drewN ?_ _ | refine blk_drew ?_ | refine blk_alloc ?_ _)); exact BK106.out) hg (Kd.R_ne HO_108000.out BK106.out (by decide)))
                          have n2_ := Aside0.mk (blk_grown (g := gb107) (o := .cells #[u108000, .bool x108001_2] 57 (0, 0)) (by (with_reducible repeat (first | refine blk_drewN ?_ _ | refine blk_drew ?_ | refine blk_alloc ?_ _)); exact BK107.out) hg (Kd.R_ne HO_108000.out BK107.out (by decide)))
                          have n3_ := Aside0.mk (blk_grown (g := gb116) (o := .cells #[.int .i32 (rd x0_2 0), .int .i32 (rd x0_2 0)] 67 (0, 0)) (by (with_reducible repeat (first | refine blk_drewN ?_ _ | refine blk_drew ?_ | refine blk_alloc ?_ _)); exact BK116.out) hg (Kd.R_away HO_108000.out (fun _ hk => hk.2)))
                          have n4_ := Aside0.mk (Kd.V_afterv (ok := (fun k_ => (P0_ k_ ∨ w.heap.size ≤ k_) ∧ k_ ≠ gb106 ∧ k_ ≠ gb107 ∧ k_ ≠ gb116)) (by (with_reducible repeat (first | apply Kd.V_alloc | apply Kd.V_drewN | apply Kd.V_drew)); exact Kd.V_mono HO137.out (fun _ hk => ⟨⟨hk.1, ⟨hk.2.2.1, ⟨hk.2.2.2.1, hk.2.2.2.2⟩⟩⟩, hk.2.1⟩)) hg hat)
                          have n5_ := Aside0.mk (hb)
                          have n6_ := Aside0.mk (ho)
                          clear HO_0
                          clear BK106
                          clear BK107
                          clear BK116
                          clear HO137
                          clear HB
                          clear HO_108000
                          have HO_0 := n0_
                          have BK106 := n1_
                          have BK107 := n2_
                          have BK116 := n3_
                          have HO137 := n4_
                          have HB := n5_
                          have HO132 := n6_
                          clear n0_ n1_ n2_ n3_ n4_ n5_ n6_
                          clear ho hb hg hat
                          obtain ⟨Ao47, co47, eo47⟩ := Kd.R_slice HO132.out
                          (first | subst eo47 | (injection eo47 with f1_ f2_ f3_; have f4_ := f1_.symm; have f5_ := f3_.symm; clear f1_ f2_ f3_; subst f4_; subst f5_))
                          refine hK.out _ _ ⟨(blk_cell BK107.out 0).trans rfl, (blk_cell BK107.out 1).trans rfl, (blk_cell BK116.out 0).trans rfl, (blk_cell BK116.out 1).trans rfl⟩ (fun hHeld => ?_)
                          clear hK K
                          refine norm_ (a' := ?_) ?_ ?_
                          rotate_left
                          · show Act.put _ (some 51) _ = _
                            simp only [Act.put, List.setIfInBounds_toArray, List.set_cons_zero, List.set_cons_succ, i64_w, i32_w]
                            rfl
                          refine pure_ (i := 8) (N := some 55) (v := ?_) (a' := ?_) #[true, true, true, true, true, true, true, true, true, false, false] rfl rfl (any_of HT_.out (by kernel_rfl)) (fun _ _ _ h => h) (Or.inl ⟨by rfl, ?_⟩) ?_ ?_
                          rotate_left
                          · intro w'
                            go_simp
                            with_reducible rfl
                          rotate_left
                          · simp only [Act.put, List.setIfInBounds_toArray, List.set_cons_zero, List.set_cons_succ, i64_w, i32_w]
                            rfl
                          refine last_ (i := 9) (N := none) #[true, true, true, true, true, true, true, true, true, true, false] rfl rfl (one_of HT_.out (by kernel_rfl)) (by decide) (fun K hK => ?_)
                          have hs48 : w46.cell? ⟨gb107, 0, none⟩ = some (u108000) := (blk_cell BK107.out 0).trans rfl
                          have hfs48 := blk_frozen BK107.out 0
                          have hns48_0 := NB106_107.out
                          have hns48_2 := NB116_107.out
                          have hms48_0 := NB107_106.out
                          have hms48_2 := NB107_116.out
                          refine skip_ (w1 := ?_) (by rfl) rfl ?_ ?_
                          rotate_left
                          · go_simp
                            rfl
                          refine hK.out _ _ ?_
                          clear hK K
                          refine pure_ (i := 10) (N := some 0) (v := ?_) (a' := ?_) #[true, true, true, true, true, true, true, true, true, true, true] rfl rfl (any_of HT_.out (by kernel_rfl)) (fun _ _ _ h => h) (Or.inl ⟨by rfl, ?_⟩) ?_ ?_
                          rotate_left
                          · intro w'
                            go_simp
                            with_reducible rfl
                          rotate_left
                          · simp only [Act.put, List.setIfInBounds_toArray, List.set_cons_zero, List.set_cons_succ, i64_w, i32_w]
                            rfl
                          refine done_ (done_of HT_.out (by kernel_rfl)) ?_
                          try go_wp2
                          go_roundg k2
                          case measure => have := HJ2.out; have := HK2.out; omega
                          case rel => exact ⟨(y133), (y130), (.slice Ao47 y130.length co47), H', ⟨by have := HJ2.out; have := HK2.out; omega⟩, ⟨by (with_reducible repeat (first | apply Kd.V_alloc | apply Kd.V_drewN | apply Kd.V_drew)); exact Kd.V_mono (Kd.V_far (p := ⟨gb107, 0, none⟩) (Kd.V_mono HO137.out (fun k_ hk => (⟨hk, hk.1.2.2.1⟩ : _ ∧ k_ ≠ gb107))) (fun _ hk => hk.2) (.slice Ao47 y130.length co47)) (fun _ hk => ⟨hk.1.1.1, ⟨hk.1.2, ⟨hk.1.1.2.1, hk.1.1.2.2.1⟩⟩⟩)⟩, ⟨by (with_reducible repeat (first | apply Kd.R_alloc | apply Kd.R_drewN | apply Kd.R_drew)); exact Kd.R_mono (Kd.R_far (p := ⟨gb107, 0, none⟩) (Kd.R_types HO132.out BK107.out (by decide)) (fun _ hk => hk.2) (.slice Ao47 y130.length co47)) (fun _ hk => hk.1.1)⟩, ⟨by (with_reducible repeat (first | refine blk_drewN ?_ _ | refine blk_drew ?_ | refine blk_alloc ?_ _)); refine blk_far ?_ NB106_107.out _; (with_reducible repeat (first | refine blk_drewN ?_ _ | refine blk_drew ?_ | refine blk_alloc ?_ _)); exact BK106.out⟩, ⟨by (with_reducible repeat (first | refine blk_drewN ?_ _ | refine blk_drew ?_ | refine blk_alloc ?_ _)); refine blk_put (cs := #[u108000, .bool x108001_2]) ?_ 0 _ rfl; (with_reducible repeat (first | refine blk_drewN ?_ _ | refine blk_drew ?_ | refine blk_alloc ?_ _)); exact BK107.out⟩, ⟨by repeat (first | (with_reducible first | exact HB.out | apply below_alloc | apply pw_below_drewN | apply below_drew1 | refine below_set ?_ GE106.out | refine below_set ?_ GE107.out | refine below_set ?_ GE116.out) | exact HB.out)⟩⟩
                        · rw [if_neg c37] at H
                          exact absurd H (by simp)
                      · rw [if_neg c36] at H
                        exact absurd H (by simp)
                  · rw [if_neg c14] at H
                    exact absurd H (by simp)
                · rw [if_neg c13] at H
                  have c13b0 : decide (2 < (x0_2.length : Int)) = false := decide_eq_false c13
                  have c13b1 : decide (2 < x0_2.length) = false := decide_eq_false (by omega)
                  clear c13
                  by_cases c49 : x108000_2.length < 17592186044416
                  · rw [if_pos c49] at H
                    have LMc49 := Aside0.mk c49
                    clear c49
                    obtain ⟨y138, hy138⟩ : ∃ y_ : List (S67), y_ = (x108000_2 ++ [(⟨rd x0_2 0, rd x0_2 0⟩ : S67)]) := ⟨_, rfl⟩
                    replace H : (if 1 ≤ (x0_2.length : Int) then (glob_within.l0 k2 (x0_2.drop 1) y138 x108001_2) else (none)) = some (r1, r2) := by first | (rw [hy138]; with_reducible exact H) | (have H2_ := (Option.bind_some _ _).symm.trans H; rw [hy138]; with_reducible exact H2_) | (have H2_ := (Option.bind_some _ _).symm.trans H; with_reducible exact H2_) | with_reducible exact H | (rw [hy138]; exact H) | exact H
                    have Ny138 := Aside0.mk hy138
                    clear hy138
                    by_cases c50 : 1 ≤ (x0_2.length : Int)
                    · rw [if_pos c50] at H
                      have c50b0 := eq_true c50
                      have c50b1 : decide (1 ≤ (x0_2.length : Int)) = true := decide_eq_true c50
                      clear c50
                      obtain ⟨y141, hy141⟩ : ∃ y_ : List Int, y_ = (x0_2.drop 1) := ⟨_, rfl⟩
                      replace H : (glob_within.l0 k2 y141 y138 x108001_2) = some (r1, r2) := by first | (rw [hy141]; with_reducible exact H) | (have H2_ := (Option.bind_some _ _).symm.trans H; rw [hy141]; with_reducible exact H2_) | (have H2_ := (Option.bind_some _ _).symm.trans H; with_reducible exact H2_) | with_reducible exact H | (rw [hy141]; exact H) | exact H
                      have Ny141 := Aside0.mk hy141
                      clear hy141
                      have H' := Aside0.mk H
                      clear H
                      obtain ⟨Ao51, co51, eo51⟩ := Kd.V_slice HO_0.out
                      subst eo51
                      try go_wp2
                      have n0_ := Aside0.mk (Kd.V_drew HO_0.out)
                      have n1_ := Aside0.mk (Kd.R_drew HO_108000.out)
                      have n2_ := Aside0.mk (blk_drew BK106.out)
                      have n3_ := Aside0.mk (blk_drew BK107.out)
                      have n4_ := Aside0.mk (below_drew1 HB.out)
                      clear HO_0
                      clear HO_108000
                      clear BK106
                      clear BK107
                      clear HB
                      have HO_0 := n0_
                      have HO_108000 := n1_
                      have BK106 := n2_
                      have BK107 := n3_
                      have HB := n4_
                      clear n0_ n1_ n2_ n3_ n4_
                      have p114 : 0 ≤ (0 : Int) := (by omega)
                      have q114 : 0 < (x0_2.length : Int) := of_decide_eq_true (by first | (with_reducible assumption) | assumption)
                      obtain ⟨ad114, e114, hx114_0⟩ := Kd.at_int (Kd.V_reads' HO_0.out).2.2 0 p114 q114
                      cases e114
                      have qi114 : (0 < x0_2.length) = True := eq_true (by omega)
                      (try rw [show ((0 : Int)).toNat = 0 from rfl] at hx114_0)
                      (try rw [Addr.add_zero'] at hx114_0)
                      replace p114 := eq_true p114
                      replace q114 := eq_true q114
                      have p115 : 0 ≤ (0 : Int) := (by omega)
                      have q115 : 0 < (x0_2.length : Int) := of_decide_eq_true (by first | (with_reducible assumption) | assumption)
                      obtain ⟨ad115, e115, hx115_0⟩ := Kd.at_int (Kd.V_reads' HO_0.out).2.2 0 p115 q115
                      obtain rfl : ad114 = ad115 := (by injection e115)
                      have qi115 : (0 < x0_2.length) = True := eq_true (by omega)
                      (try rw [show ((0 : Int)).toNat = 0 from rfl] at hx115_0)
                      (try rw [Addr.add_zero'] at hx115_0)
                      replace p115 := eq_true p115
                      replace q115 := eq_true q115
                      refine start_ (n := 10) (S := fun w' => w'.cell? ad114 = some (.int .i32 (rd x0_2 0)) ∧ w'.cell? ad114 = some (.int .i32 (rd x0_2 0))) (ds := []) #[false, false, false, false, false, false, false, false, false, false] (by kernel_rfl) rfl rfl ⟨hx114_0, hx115_0⟩ (fun hHeld => ?_); refine with_tabW glob_within.tab5 glob_within.bits5 (fun HT_ HW_ => ?_)
                      generalize wr.drew = w52 at HO_0 HO_108000 BK106 BK107 HB hx114_0 hx115_0 hHeld ⊢
                      refine pure_ (i := 0) (N := some 16) (v := ?_) (a' := ?_) #[true, false, false, false, false, false, false, false, false, false] rfl rfl (any_of HT_.out (by kernel_rfl)) (fun _ _ _ h => h) (Or.inl ⟨by rfl, ?_⟩) ?_ ?_
                      rotate_left
                      · intro w'
                        go_simp
                        with_reducible rfl
                      rotate_left
                      · simp only [Act.put, List.setIfInBounds_toArray, List.set_cons_zero, List.set_cons_succ, i64_w, i32_w]
                        rfl
                      refine pure_ (i := 1) (N := some 17) (v := ?_) (a' := ?_) #[true, true, false, false, false, false, false, false, false, false] rfl rfl (any_of HT_.out (by kernel_rfl)) (fun _ _ _ h => h) (Or.inl ⟨by rfl, ?_⟩) ?_ ?_
                      rotate_left
                      · intro w'
                        go_simp
                        with_reducible rfl
                      rotate_left
                      · simp only [Act.put, List.setIfInBounds_toArray, List.set_cons_zero, List.set_cons_succ, i64_w, i32_w]
                        rfl
                      refine pure_ (i := 3) (N := some 19) (v := ?_) (a' := ?_) #[true, true, false, true, false, false, false, false, false, false] rfl rfl (any_of HT_.out (by kernel_rfl)) (fun _ _ _ h => h) (Or.inl ⟨by rfl, ?_⟩) ?_ ?_
                      rotate_left
                      · intro w'
                        go_simp
                        with_reducible rfl
                      rotate_left
                      · simp only [Act.put, List.setIfInBounds_toArray, List.set_cons_zero, List.set_cons_succ, i64_w, i32_w]
                        rfl
                      refine pure_ (i := 4) (N := some 20) (v := ?_) (a' := ?_) #[true, true, false, true, true, false, false, false, false, false] rfl rfl (any_of HT_.out (by kernel_rfl)) (fun _ _ _ h => h) (Or.inl ⟨by rfl, ?_⟩) ?_ ?_
                      rotate_left
                      · intro w'
                        go_simp
                        with_reducible rfl
                      rotate_left
                      · simp only [Act.put, List.setIfInBounds_toArray, List.set_cons_zero, List.set_cons_succ, i64_w, i32_w]
                        rfl
                      refine take_ (i := 2) (N := some 18) (v := ?_) (a' := ?_) #[true, true, true, true, true, false, false, false, false, false] rfl rfl (take_ofW HT_.out HW_.out (by kernel_rfl)) (fun _ _ _ h => h) (Or.inl ⟨by rfl, ?_⟩) hHeld ?_ ?_
                      rotate_left
                      · rintro w' ⟨s0, s1⟩
                        go_simp
                        with_reducible rfl
                      rotate_left
                      · simp only [Act.put, List.setIfInBounds_toArray, List.set_cons_zero, List.set_cons_succ, i64_w, i32_w]
                        rfl
                      refine take_ (i := 5) (N := some 21) (v := ?_) (a' := ?_) #[true, true, true, true, true, true, false, false, false, false] rfl rfl (take_ofW HT_.out HW_.out (by kernel_rfl)) (fun _ _ _ h => h) (Or.inl ⟨by rfl, ?_⟩) hHeld ?_ ?_
                      rotate_left
                      · rintro w' ⟨s0, s1⟩
                        go_simp
                        with_reducible rfl
                      rotate_left
                      · simp only [Act.put, List.setIfInBounds_toArray, List.set_cons_zero, List.set_cons_succ, i64_w, i32_w]
                        rfl
                      refine pure_ (i := 6) (N := some 22) (v := ?_) (a' := ?_) #[true, true, true, true, true, true, true, false, false, false] rfl rfl (any_of HT_.out (by kernel_rfl)) (fun _ _ _ h => h) (Or.inl ⟨by rfl, ?_⟩) ?_ ?_
                      rotate_left
                      · intro w'
                        go_simp
                        with_reducible rfl
                      rotate_left
                      · simp only [Act.put, List.setIfInBounds_toArray, List.set_cons_zero, List.set_cons_succ, i64_w, i32_w]
                        rfl
                      refine one_ (i := 7) (N := some 4) #[true, true, true, true, true, true, true, true, false, false] rfl rfl (one_of HT_.out (by kernel_rfl)) (by decide) (fun K hK => ?_)
                      refine box_step ?hg (N := 4) ?hd (cs := #[.int .i32 0, .int .i32 0]) (t := 67) ?hr ?_; (case hd => rfl); (case hg => rfl); (case hr => first | (go_simp; done) | (go_simp; rfl))
                      intro gb116 hg w53 hbox hb
                      have HS0_ := (hb.cell (World.block_lt_of_cell? _ _ (hHeld.1))).trans (hHeld.1)
                      have HS1_ := (hb.cell (World.block_lt_of_cell? _ _ (hHeld.2))).trans (hHeld.2)
                      have n0_ := Aside0.mk (Kd.V_below (Kd.V_elderB (by (with_reducible repeat (first | apply Kd.V_alloc | apply Kd.V_drewN | apply Kd.V_drew)); exact HO_0.out) gb116 (Nat.le_of_eq hg.symm)) hb)
                      have n1_ := Aside0.mk (Kd.R_below (Kd.R_elderB (by (with_reducible repeat (first | apply Kd.R_alloc | apply Kd.R_drewN | apply Kd.R_drew)); exact HO_108000.out) gb116 (Nat.le_of_eq hg.symm)) hb)
                      have n2_ := Aside0.mk (blk_below (g := gb106) (o := .cells #[.slice none 0 0, .bool false] 57 (0, 0)) (by (with_reducible repeat (first | refine blk_drewN ?_ _ | refine blk_drew ?_ | refine blk_alloc ?_ _)); exact BK106.out) hb)
                      have n3_ := Aside0.mk (blk_below (g := gb107) (o := .cells #[u108000, .bool x108001_2] 57 (0, 0)) (by (with_reducible repeat (first | refine blk_drewN ?_ _ | refine blk_drew ?_ | refine blk_alloc ?_ _)); exact BK107.out) hb)
                      have n4_ := Aside0.mk (below_step (by repeat (first | (with_reducible first | exact HB.out | apply below_alloc | apply pw_below_drewN | apply below_drew1 | refine below_set ?_ GE106.out | refine below_set ?_ GE107.out) | exact HB.out)) hb)
                      have n5_ := Aside0.mk (hbox)
                      have n6_ := Aside0.mk ((by rw [hg]; exact (below_size (by repeat (first | (with_reducible first | exact HB.out | apply below_alloc | apply pw_below_drewN | apply below_drew1 | refine below_set ?_ GE106.out | refine below_set ?_ GE107.out) | exact HB.out))) : w.heap.size ≤ gb116))
                      have n7_ := Aside0.mk ((by rw [hg]; exact (below_size (by repeat (first | (with_reducible first | exact HB.out | apply below_alloc | apply pw_below_drewN | apply below_drew1 | refine below_set ?_ GE106.out | refine below_set ?_ GE107.out) | exact HB.out))) : w.heap.size ≤ gb116))
                      have n8_ := Aside0.mk ((by rw [hg]; exact Nat.ne_of_lt (blk_lt (g := gb106) (o := .cells #[.slice none 0 0, .bool false] 57 (0, 0)) (by (with_reducible repeat (first | refine blk_drewN ?_ _ | refine blk_drew ?_ | refine blk_alloc ?_ _)); exact BK106.out)) : gb106 ≠ gb116))
                      have n9_ := Aside0.mk ((by rw [hg]; exact Nat.ne_of_gt (blk_lt (g := gb106) (o := .cells #[.slice none 0 0, .bool false] 57 (0, 0)) (by (with_reducible repeat (first | refine blk_drewN ?_ _ | refine blk_drew ?_ | refine blk_alloc ?_ _)); exact BK106.out)) : gb116 ≠ gb106))
                      have n10_ := Aside0.mk ((by rw [hg]; exact Nat.ne_of_lt (blk_lt (g := gb107) (o := .cells #[u108000, .bool x108001_2] 57 (0, 0)) (by (with_reducible repeat (first | refine blk_drewN ?_ _ | refine blk_drew ?_ | refine blk_alloc ?_ _)); exact BK107.out)) : gb107 ≠ gb116))
                      have n11_ := Aside0.mk ((by rw [hg]; exact Nat.ne_of_gt (blk_lt (g := gb107) (o := .cells #[u108000, .bool x108001_2] 57 (0, 0)) (by (with_reducible repeat (first | refine blk_drewN ?_ _ | refine blk_drew ?_ | refine blk_alloc ?_ _)); exact BK107.out)) : gb116 ≠ gb107))
                      clear HO_0
                      clear HO_108000
                      clear BK106
                      clear BK107
                      clear HB
                      have HO_0 := n0_
                      have HO_108000 := n1_
                      have BK106 := n2_
                      have BK107 := n3_
                      have HB := n4_
                      have BK116 := n5_
                      have GW116 := n6_
                      have GE116 := n7_
                      have NB106_116 := n8_
                      have NB116_106 := n9_
                      have NB107_116 := n10_
                      have NB116_107 := n11_
                      clear n0_ n1_ n2_ n3_ n4_ n5_ n6_ n7_ n8_ n9_ n10_ n11_
                      clear hb hbox hg
                      refine hK.out _ _ ⟨HS0_, HS1_⟩ (fun hHeld => ?_)
                      clear hK K
                      refine norm_ (a' := ?_) ?_ ?_
                      rotate_left
                      · show Act.put _ (some 4) _ = _
                        simp only [Act.put, List.setIfInBounds_toArray, List.set_cons_zero, List.set_cons_succ, i64_w, i32_w]
                        rfl
                      refine one_ (i := 8) (N := none) #[true, true, true, true, true, true, true, true, true, false] rfl rfl (one_of HT_.out (by kernel_rfl)) (by decide) (fun K hK => ?_)
                      have hs54 : w53.cell? ⟨gb116, 0, none⟩ = some (.int .i32 0) := (blk_cell BK116.out 0).trans rfl
                      have hfs54 := blk_frozen BK116.out 0
                      have hns54_0 := NB106_116.out
                      have hns54_1 := NB107_116.out
                      have hms54_0 := NB116_106.out
                      have hms54_1 := NB116_107.out
                      have hs55 : w53.cell? ⟨gb116, 1, none⟩ = some (.int .i32 0) := (blk_cell BK116.out 1).trans rfl
                      have hfs55 := blk_frozen BK116.out 1
                      have hns55_0 := NB106_116.out
                      have hns55_1 := NB107_116.out
                      have hms55_0 := NB116_106.out
                      have hms55_1 := NB116_107.out
                      refine skip_ (w1 := ?_) (by rfl) rfl ?_ ?_
                      rotate_left
                      · go_simp
                        rfl
                      refine hK.out _ _ ⟨((cell_far (p := ⟨gb116, _, none⟩) (by first | exact row_away HO_0.out (fun _ hk => hk.2) | (rw [add_block]; exact row_away HO_0.out (fun _ hk => hk.2)) | (show (Addr.add _ _).block ≠ _; rw [add_block]; exact row_away HO_0.out (fun _ hk => hk.2)) | (dsimp only; exact row_away HO_0.out (fun _ hk => hk.2))) _).trans (((cell_far (p := ⟨gb116, _, none⟩) (by first | exact row_away HO_0.out (fun _ hk => hk.2) | (rw [add_block]; exact row_away HO_0.out (fun _ hk => hk.2)) | (show (Addr.add _ _).block ≠ _; rw [add_block]; exact row_away HO_0.out (fun _ hk => hk.2)) | (dsimp only; exact row_away HO_0.out (fun _ hk => hk.2))) _).trans (hHeld.1)))), ((cell_far (p := ⟨gb116, _, none⟩) (by first | exact row_away HO_0.out (fun _ hk => hk.2) | (rw [add_block]; exact row_away HO_0.out (fun _ hk => hk.2)) | (show (Addr.add _ _).block ≠ _; rw [add_block]; exact row_away HO_0.out (fun _ hk => hk.2)) | (dsimp only; exact row_away HO_0.out (fun _ hk => hk.2))) _).trans (((cell_far (p := ⟨gb116, _, none⟩) (by first | exact row_away HO_0.out (fun _ hk => hk.2) | (rw [add_block]; exact row_away HO_0.out (fun _ hk => hk.2)) | (show (Addr.add _ _).block ≠ _; rw [add_block]; exact row_away HO_0.out (fun _ hk => hk.2)) | (dsimp only; exact row_away HO_0.out (fun _ hk => hk.2))) _).trans (hHeld.2))))⟩ (fun hHeld => ?_)
                      clear hK K
                      refine pure_ (i := 9) (N := some 5) (v := ?_) (a' := ?_) #[true, true, true, true, true, true, true, true, true, true] rfl rfl (any_of HT_.out (by kernel_rfl)) (fun _ _ _ h => h) (Or.inl ⟨by rfl, ?_⟩) ?_ ?_
                      rotate_left
                      · intro w'
                        go_simp
                        with_reducible rfl
                      rotate_left
                      · simp only [Act.put, List.setIfInBounds_toArray, List.set_cons_zero, List.set_cons_succ, i64_w, i32_w]
                        rfl
                      refine done_ (done_of HT_.out (by kernel_rfl)) ?_
                      try go_wp2
                      have n0_ : Aside0 (Kd.V (Kd.int .i32) 21 ((w53.setCell ⟨gb116, 0, none⟩ (.int .i32 (rd x0_2 0))).setCell ⟨gb116, 1, none⟩ (.int .i32 (rd x0_2 0))) w.heap.size (fun k_ => (P0_ k_ ∨ w.heap.size ≤ k_) ∧ some k_ ≠ (u108000 : Value).ownBlock ∧ k_ ≠ gb106 ∧ k_ ≠ gb107 ∧ k_ ≠ gb116) (.slice (some ad114) x0_2.length co51) x0_2) := ⟨by (with_reducible repeat (first | apply Kd.V_alloc | apply Kd.V_drewN | apply Kd.V_drew)); exact Kd.V_mono (Kd.V_far (p := ⟨gb116, 1, none⟩) (Kd.V_far (p := ⟨gb116, 0, none⟩) (Kd.V_mono HO_0.out (fun k_ hk => (⟨hk, hk.2⟩ : _ ∧ k_ ≠ gb116))) (fun _ hk => hk.2) (.int .i32 (rd x0_2 0))) (fun _ hk => hk.2) (.int .i32 (rd x0_2 0))) (fun _ hk => ⟨hk.1.1.1, ⟨hk.1.1.2.1, ⟨hk.1.1.2.2.1, ⟨hk.1.1.2.2.2, hk.1.2⟩⟩⟩⟩)⟩
                      have n1_ : Aside0 (Kd.R k67 67 ((w53.setCell ⟨gb116, 0, none⟩ (.int .i32 (rd x0_2 0))).setCell ⟨gb116, 1, none⟩ (.int .i32 (rd x0_2 0))) w.heap.size (fun k_ => (w.heap.size ≤ k_) ∧ k_ ≠ gb116) u108000 x108000_2) := ⟨by (with_reducible repeat (first | apply Kd.R_alloc | apply Kd.R_drewN | apply Kd.R_drew)); exact Kd.R_mono (Kd.R_far (p := ⟨gb116, 1, none⟩) (Kd.R_far (p := ⟨gb116, 0, none⟩) (Kd.R_mono HO_108000.out (fun k_ hk => (⟨hk, hk.2⟩ : _ ∧ k_ ≠ gb116))) (fun _ hk => hk.2) (.int .i32 (rd x0_2 0))) (fun _ hk => hk.2) (.int .i32 (rd x0_2 0))) (fun _ hk => ⟨hk.1.1, hk.1.2⟩)⟩
                      have n2_ : Aside0 (((w53.setCell ⟨gb116, 0, none⟩ (.int .i32 (rd x0_2 0))).setCell ⟨gb116, 1, none⟩ (.int .i32 (rd x0_2 0))).heap[gb106]? = some (.cells #[.slice none 0 0, .bool false] 57 (0, 0))) := ⟨by (with_reducible repeat (first | refine blk_drewN ?_ _ | refine blk_drew ?_ | refine blk_alloc ?_ _)); refine blk_far ?_ NB106_116.out _; (with_reducible repeat (first | refine blk_drewN ?_ _ | refine blk_drew ?_ | refine blk_alloc ?_ _)); refine blk_far ?_ NB106_116.out _; (with_reducible repeat (first | refine blk_drewN ?_ _ | refine blk_drew ?_ | refine blk_alloc ?_ _)); exact BK106.out⟩
                      have n3_ : Aside0 (((w53.setCell ⟨gb116, 0, none⟩ (.int .i32 (rd x0_2 0))).setCell ⟨gb116, 1, none⟩ (.int .i32 (rd x0_2 0))).heap[gb107]? = some (.cells #[u108000, .bool x108001_2] 57 (0, 0))) := ⟨by (with_reducible repeat (first | refine blk_drewN ?_ _ | refine blk_drew ?_ | refine blk_alloc ?_ _)); refine blk_far ?_ NB107_116.out _; (with_reducible repeat (first | refine blk_drewN ?_ _ | refine blk_drew ?_ | refine blk_alloc ?_ _)); refine blk_far ?_ NB107_116.out _; (with_reducible repeat (first | refine blk_drewN ?_ _ | refine blk_drew ?_ | refine blk_alloc ?_ _)); exact BK107.out⟩
                      have n4_ : Aside0 (((w53.setCell ⟨gb116, 0, none⟩ (.int .i32 (rd x0_2 0))).setCell ⟨gb116, 1, none⟩ (.int .i32 (rd x0_2 0))).heap[gb116]? = some (.cells #[.int .i32 (rd x0_2 0), .int .i32 (rd x0_2 0)] 67 (0, 0))) := ⟨by (with_reducible repeat (first | refine blk_drewN ?_ _ | refine blk_drew ?_ | refine blk_alloc ?_ _)); refine blk_put (cs := #[.int .i32 (rd x0_2 0), .int .i32 0]) ?_ 1 _ rfl; (with_reducible repeat (first | refine blk_drewN ?_ _ | refine blk_drew ?_ | refine blk_alloc ?_ _)); refine blk_put (cs := #[.int .i32 0, .int .i32 0]) ?_ 0 _ rfl; (with_reducible repeat (first | refine blk_drewN ?_ _ | refine blk_drew ?_ | refine blk_alloc ?_ _)); exact BK116.out⟩
                      have n5_ : Aside0 (Below w.heap.size w ((w53.setCell ⟨gb116, 0, none⟩ (.int .i32 (rd x0_2 0))).setCell ⟨gb116, 1, none⟩ (.int .i32 (rd x0_2 0)))) := ⟨by repeat (first | (with_reducible first | exact HB.out | apply below_alloc | apply pw_below_drewN | apply below_drew1 | refine below_set ?_ GE106.out | refine below_set ?_ GE107.out | refine below_set ?_ GE116.out) | exact HB.out)⟩
                      (try clear HO_0)
                      (try clear HO_108000)
                      (try clear BK106)
                      (try clear BK107)
                      (try clear BK116)
                      (try clear HB)
                      generalize ((w53.setCell ⟨gb116, 0, none⟩ (.int .i32 (rd x0_2 0))).setCell ⟨gb116, 1, none⟩ (.int .i32 (rd x0_2 0))) = w56 at n0_ n1_ n2_ n3_ n4_ n5_ ⊢
                      have HO_0 := n0_
                      have HO_108000 := n1_
                      have BK106 := n2_
                      have BK107 := n3_
                      have BK116 := n4_
                      have HB := n5_
                      clear n0_ n1_ n2_ n3_ n4_ n5_
                      have n0_ := Aside0.mk (Kd.V_drew HO_0.out)
                      have n1_ := Aside0.mk (Kd.R_drew HO_108000.out)
                      have n2_ := Aside0.mk (blk_drew BK106.out)
                      have n3_ := Aside0.mk (blk_drew BK107.out)
                      have n4_ := Aside0.mk (blk_drew BK116.out)
                      have n5_ := Aside0.mk (below_drew1 HB.out)
                      clear HO_0
                      clear HO_108000
                      clear BK106
                      clear BK107
                      clear BK116
                      clear HB
                      have HO_0 := n0_
                      have HO_108000 := n1_
                      have BK106 := n2_
                      have BK107 := n3_
                      have BK116 := n4_
                      have HB := n5_
                      clear n0_ n1_ n2_ n3_ n4_ n5_
                      have q58 : (1 : Int) ≤ ((x0_2.length : Int) : Int) := of_decide_eq_true (by first | (with_reducible assumption) | assumption)
                      obtain ⟨i058, hi058, _, hsz58, _⟩ := info_parts info21
                      have hroom58 : x0_2.length ≤ co51 := (Kd.V_reads' HO_0.out).2.1
                      have hC58 : Kd.F (Kd.int .i32) _ _ (some ad114) x0_2.length x0_2 := (Kd.V_at (base := w.heap.size) HO_0.out).2.2
                      have hcut58 := cut_from (P := Try.prog) 31 21 .i64 Try.underlying31 hi058 1 hsz58 (some ad114) x0_2.length co51 1 (by omega) q58
                      have hr58 := Kd.F_cut (m := (1 : Int).toNat) (c := co51) hC58 (by omega) hroom58
                      obtain ⟨A58, hA58⟩ : ∃ A1, A1 = (if co51 = (1 : Int).toNat then (some ad114) else ((some ad114) : Option Addr).map (·.add ((1 : Int).toNat * 1))) := ⟨_, rfl⟩
                      obtain ⟨c58, hc58⟩ : ∃ c1, c1 = co51 - (1 : Int).toNat := ⟨_, rfl⟩
                      have hy58 : y141.length = x0_2.length - (1 : Int).toNat := (by rw [Ny141.out, List.length_drop] <;> omega)
                      rw [show (x0_2).drop (1 : Int).toNat = y141 from Ny141.out.symm] at hr58
                      replace hr58 : Kd.F (Kd.int .i32) _ _ A58 y141.length y141 := (by rw [hA58]; exact hr58)
                      rw [← hy58, ← hA58, ← hc58] at hcut58
                      have HO145 := Aside0.mk (show Kd.V (Kd.int .i32) 21 _ w.heap.size _ (.slice A58 y141.length c58) y141 from Kd.V_mk (by rw [hy58, hc58]; exact Nat.sub_le_sub_right hroom58 _) hr58)
                      have HC145 := Aside0.mk (show y141.length ≤ c58 from by rw [hy58, hc58]; exact Nat.sub_le_sub_right hroom58 _)
                      clear hr58 hC58 hroom58 hi058 hsz58 hc58
                      have KY58 := Aside0.mk hy58
                      have KA58 := Aside0.mk hA58
                      clear hy58 hA58
                      replace q58 := eq_true q58
                      refine start_ (n := 11) (S := fun w' => w'.cell? ⟨gb107, 0, none⟩ = some (u108000) ∧ w'.cell? ⟨gb107, 1, none⟩ = some (.bool x108001_2) ∧ w'.cell? ⟨gb116, 0, none⟩ = some (.int .i32 (rd x0_2 0)) ∧ w'.cell? ⟨gb116, 1, none⟩ = some (.int .i32 (rd x0_2 0))) (ds := [9]) #[false, false, false, false, false, false, false, false, false, false, false] (by kernel_rfl) rfl rfl ⟨(blk_cell BK107.out 0).trans rfl, (blk_cell BK107.out 1).trans rfl, (blk_cell BK116.out 0).trans rfl, (blk_cell BK116.out 1).trans rfl⟩ (fun hHeld => ?_); refine with_tabW glob_within.tab8 glob_within.bits8 (fun HT_ HW_ => ?_)
                      generalize w56.drew = w57 at HO_0 HO_108000 BK106 BK107 BK116 HB HO145 hHeld ⊢
                      refine pure_ (i := 0) (N := some 47) (v := ?_) (a' := ?_) #[true, false, false, false, false, false, false, false, false, false, false] rfl rfl (any_of HT_.out (by kernel_rfl)) (fun _ _ _ h => h) (Or.inl ⟨by rfl, ?_⟩) ?_ ?_
                      rotate_left
                      · intro w'
                        go_simp
                        with_reducible rfl
                      rotate_left
                      · simp only [Act.put, List.setIfInBounds_toArray, List.set_cons_zero, List.set_cons_succ, i64_w, i32_w]
                        rfl
                      refine pure_ (i := 5) (N := some 52) (v := ?_) (a' := ?_) #[true, false, false, false, false, true, false, false, false, false, false] rfl rfl (any_of HT_.out (by kernel_rfl)) (fun _ _ _ h => h) (Or.inl ⟨by rfl, ?_⟩) ?_ ?_
                      rotate_left
                      · intro w'
                        go_simp
                        with_reducible rfl
                      rotate_left
                      · simp only [Act.put, List.setIfInBounds_toArray, List.set_cons_zero, List.set_cons_succ, i64_w, i32_w]
                        rfl
                      refine pure_ (i := 6) (N := some 53) (v := ?_) (a' := ?_) #[true, false, false, false, false, true, true, false, false, false, false] rfl rfl (any_of HT_.out (by kernel_rfl)) (fun _ _ _ h => h) (Or.inl ⟨by rfl, ?_⟩) ?_ ?_
                      rotate_left
                      · intro w'
                        go_simp
                        with_reducible rfl
                      rotate_left
                      · simp only [Act.put, List.setIfInBounds_toArray, List.set_cons_zero, List.set_cons_succ, i64_w, i32_w]
                        rfl
                      refine pure_ (i := 7) (N := some 54) (v := ?_) (a' := ?_) #[true, false, false, false, false, true, true, true, false, false, false] rfl rfl (any_of HT_.out (by kernel_rfl)) (fun _ _ _ h => h) (Or.inl ⟨by rfl, ?_⟩) ?_ ?_
                      rotate_left
                      · intro w'
                        go_simp
                        with_reducible rfl
                      rotate_left
                      · simp only [Act.put, List.setIfInBounds_toArray, List.set_cons_zero, List.set_cons_succ, i64_w, i32_w]
                        rfl
                      refine take_ (i := 1) (N := some 48) (v := ?_) (a' := ?_) #[true, true, false, false, false, true, true, true, false, false, false] rfl rfl (take_ofW HT_.out HW_.out (by kernel_rfl)) (fun _ _ _ h => h) (Or.inl ⟨by rfl, ?_⟩) hHeld ?_ ?_
                      rotate_left
                      · rintro w' ⟨s0, s1, s2, s3⟩
                        go_simp
                        with_reducible rfl
                      rotate_left
                      · simp only [Act.put, List.setIfInBounds_toArray, List.set_cons_zero, List.set_cons_succ, i64_w, i32_w]
                        rfl
                      refine take_ (i := 2) (N := some 49) (v := ?_) (a' := ?_) #[true, true, true, false, false, true, true, true, false, false, false] rfl rfl (take_ofW HT_.out HW_.out (by kernel_rfl)) (fun _ _ _ h => h) (Or.inl ⟨by rfl, ?_⟩) hHeld ?_ ?_
                      rotate_left
                      · rintro w' ⟨s0, s1, s2, s3⟩
                        go_simp
                        with_reducible rfl
                      rotate_left
                      · simp only [Act.put, List.setIfInBounds_toArray, List.set_cons_zero, List.set_cons_succ, i64_w, i32_w]
                        rfl
                      refine one_ (i := 3) (N := some 50) #[true, true, true, true, false, true, true, true, false, false, false] rfl rfl (one_of HT_.out (by kernel_rfl)) (by decide) (fun K hK => ?_)
                      refine value_ (w1 := ?_) (v := ?_) (by rfl) rfl ?_ ?_
                      rotate_left 2
                      · go_simp
                        constructor
                        · rfl
                        · rfl
                      refine hK.out _ _ ⟨(blk_cell (blk_alloc BK107.out _) 0).trans rfl, (blk_cell (blk_alloc BK107.out _) 1).trans rfl, (blk_cell (blk_alloc BK116.out _) 0).trans rfl, (blk_cell (blk_alloc BK116.out _) 1).trans rfl⟩ (fun hHeld => ?_)
                      clear hK K
                      refine norm_ (a' := ?_) ?_ ?_
                      rotate_left
                      · show Act.put _ (some 50) _ = _
                        simp only [Act.put, List.setIfInBounds_toArray, List.set_cons_zero, List.set_cons_succ, i64_w, i32_w]
                        rfl
                      refine one_ (i := 4) (N := some 51) #[true, true, true, true, true, true, true, true, false, false, false] rfl rfl (one_of HT_.out (by kernel_rfl)) (by decide) (fun K hK => ?_)
                      refine Kd.R_append_step k67 (w0 := w) w.heap.size (by rfl) (.tmp 48) (.tmp 50) 55 67 (.agg #[(.int .i32 0), (.int .i32 0)]) 8 rfl Try.underlying55 info67 rfl (by decide) (by omega) u108000 x108000_2 (⟨rd x0_2 0, rd x0_2 0⟩ : S67) [.int .i32 (rd x0_2 0), .int .i32 (rd x0_2 0)] (fun k_ => (w.heap.size ≤ k_) ∧ k_ ≠ gb116) (fun _ => False) rfl rfl ?aP (fun _ hk => hk.elim) ?aF ?aO ?aB ?aS ?aL ?_
                      (case aP => exact k67_mkM _ _ _ (⟨rd x0_2 0, rd x0_2 0⟩ : S67))
                      (case aB => exact (by repeat (first | (with_reducible first | exact HB.out | apply below_alloc | apply pw_below_drewN | apply below_drew1 | refine below_set ?_ GE106.out | refine below_set ?_ GE107.out | refine below_set ?_ GE116.out) | exact HB.out)))
                      (case aF => exact (fun k_ hk => ⟨(Nat.le_trans (below_size (by repeat (first | (with_reducible first | exact HB.out | apply below_alloc | apply pw_below_drewN | apply below_drew1 | refine below_set ?_ GE106.out | refine below_set ?_ GE107.out | refine below_set ?_ GE116.out) | exact HB.out))) hk), Kd.freshB (g := gb116) (o := .cells #[.int .i32 (rd x0_2 0), .int .i32 (rd x0_2 0)] 67 (0, 0)) (by (with_reducible repeat (first | refine blk_drewN ?_ _ | refine blk_drew ?_ | refine blk_alloc ?_ _)); exact BK116.out) k_ hk⟩))
                      (case aO => exact (by (with_reducible repeat (first | apply Kd.R_alloc | apply Kd.R_drewN | apply Kd.R_drew)); exact HO_108000.out))
                      (case aS => exact (below_size (by repeat (first | (with_reducible first | exact HB.out | apply below_alloc | apply pw_below_drewN | apply below_drew1 | refine below_set ?_ GE106.out | refine below_set ?_ GE107.out | refine below_set ?_ GE116.out) | exact HB.out))))
                      (case aL => have := LMc49.out; omega)
                      intro v139 w59 ho hb hg hat
                      rw [← Ny138.out] at ho
                      have n0_ := Aside0.mk (Kd.V_afterv (ok := (fun k_ => (P0_ k_ ∨ w.heap.size ≤ k_) ∧ k_ ≠ gb106 ∧ k_ ≠ gb107 ∧ k_ ≠ gb116)) (by (with_reducible repeat (first | apply Kd.V_alloc | apply Kd.V_drewN | apply Kd.V_drew)); exact Kd.V_mono HO_0.out (fun _ hk => ⟨⟨hk.1, ⟨hk.2.2.1, ⟨hk.2.2.2.1, hk.2.2.2.2⟩⟩⟩, hk.2.1⟩)) hg hat)
                      have n1_ := Aside0.mk (blk_grown (g := gb106) (o := .cells #[.slice none 0 0, .bool false] 57 (0, 0)) (by (with_reducible repeat (first | refine blk_drewN ?_ _ | refine blk_drew ?_ | refine blk_alloc ?_ _)); exact BK106.out) hg (Kd.R_ne HO_108000.out BK106.out (by decide)))
                      have n2_ := Aside0.mk (blk_grown (g := gb107) (o := .cells #[u108000, .bool x108001_2] 57 (0, 0)) (by (with_reducible repeat (first | refine blk_drewN ?_ _ | refine blk_drew ?_ | refine blk_alloc ?_ _)); exact BK107.out) hg (Kd.R_ne HO_108000.out BK107.out (by decide)))
                      have n3_ := Aside0.mk (blk_grown (g := gb116) (o := .cells #[.int .i32 (rd x0_2 0), .int .i32 (rd x0_2 0)] 67 (0, 0)) (by (with_reducible repeat (first | refine blk_drewN ?_ _ | refine blk_drew ?_ | refine blk_alloc ?_ _)); exact BK116.out) hg (Kd.R_away HO_108000.out (fun _ hk => hk.2)))
                      have n4_ := Aside0.mk (Kd.V_afterv (ok := (fun k_ => (P0_ k_ ∨ w.heap.size ≤ k_) ∧ k_ ≠ gb106 ∧ k_ ≠ gb107 ∧ k_ ≠ gb116)) (by (with_reducible repeat (first | apply Kd.V_alloc | apply Kd.V_drewN | apply Kd.V_drew)); exact Kd.V_mono HO145.out (fun _ hk => ⟨⟨hk.1, ⟨hk.2.2.1, ⟨hk.2.2.2.1, hk.2.2.2.2⟩⟩⟩, hk.2.1⟩)) hg hat)
                      have n5_ := Aside0.mk (hb)
                      have n6_ := Aside0.mk (ho)
                      clear HO_0
                      clear BK106
                      clear BK107
                      clear BK116
                      clear HO145
                      clear HB
                      clear HO_108000
                      have HO_0 := n0_
                      have BK106 := n1_
                      have BK107 := n2_
                      have BK116 := n3_
                      have HO145 := n4_
                      have HB := n5_
                      have HO140 := n6_
                      clear n0_ n1_ n2_ n3_ n4_ n5_ n6_
                      clear ho hb hg hat
                      obtain ⟨Ao60, co60, eo60⟩ := Kd.R_slice HO140.out
                      (first | subst eo60 | (injection eo60 with f1_ f2_ f3_; have f4_ := f1_.symm; have f5_ := f3_.symm; clear f1_ f2_ f3_; subst f4_; subst f5_))
                      refine hK.out _ _ ⟨(blk_cell BK107.out 0).trans rfl, (blk_cell BK107.out 1).trans rfl, (blk_cell BK116.out 0).trans rfl, (blk_cell BK116.out 1).trans rfl⟩ (fun hHeld => ?_)
                      clear hK K
                      refine norm_ (a' := ?_) ?_ ?_
                      rotate_left
                      · show Act.put _ (some 51) _ = _
                        simp only [Act.put, List.setIfInBounds_toArray, List.set_cons_zero, List.set_cons_succ, i64_w, i32_w]
                        rfl
                      refine pure_ (i := 8) (N := some 55) (v := ?_) (a' := ?_) #[true, true, true, true, true, true, true, true, true, false, false] rfl rfl (any_of HT_.out (by kernel_rfl)) (fun _ _ _ h => h) (Or.inl ⟨by rfl, ?_⟩) ?_ ?_
                      rotate_left
                      · intro w'
                        go_simp
                        with_reducible rfl
                      rotate_left
                      · simp only [Act.put, List.setIfInBounds_toArray, List.set_cons_zero, List.set_cons_succ, i64_w, i32_w]
                        rfl
                      refine last_ (i := 9) (N := none) #[true, true, true, true, true, true, true, true, true, true, false] rfl rfl (one_of HT_.out (by kernel_rfl)) (by decide) (fun K hK => ?_)
                      have hs61 : w59.cell? ⟨gb107, 0, none⟩ = some (u108000) := (blk_cell BK107.out 0).trans rfl
                      have hfs61 := blk_frozen BK107.out 0
                      have hns61_0 := NB106_107.out
                      have hns61_2 := NB116_107.out
                      have hms61_0 := NB107_106.out
                      have hms61_2 := NB107_116.out
                      refine skip_ (w1 := ?_) (by rfl) rfl ?_ ?_
                      rotate_left
                      · go_simp
                        rfl
                      refine hK.out _ _ ?_
                      clear hK K
                      refine pure_ (i := 10) (N := some 0) (v := ?_) (a' := ?_) #[true, true, true, true, true, true, true, true, true, true, true] rfl rfl (any_of HT_.out (by kernel_rfl)) (fun _ _ _ h => h) (Or.inl ⟨by rfl, ?_⟩) ?_ ?_
                      rotate_left
                      · intro w'
                        go_simp
                        with_reducible rfl
                      rotate_left
                      · simp only [Act.put, List.setIfInBounds_toArray, List.set_cons_zero, List.set_cons_succ, i64_w, i32_w]
                        rfl
                      refine done_ (done_of HT_.out (by kernel_rfl)) ?_
                      try go_wp2
                      go_roundg k2
                      case measure => have := HJ2.out; have := HK2.out; omega
                      case rel => exact ⟨(y141), (y138), (.slice Ao60 y138.length co60), H', ⟨by have := HJ2.out; have := HK2.out; omega⟩, ⟨by (with_reducible repeat (first | apply Kd.V_alloc | apply Kd.V_drewN | apply Kd.V_drew)); exact Kd.V_mono (Kd.V_far (p := ⟨gb107, 0, none⟩) (Kd.V_mono HO145.out (fun k_ hk => (⟨hk, hk.1.2.2.1⟩ : _ ∧ k_ ≠ gb107))) (fun _ hk => hk.2) (.slice Ao60 y138.length co60)) (fun _ hk => ⟨hk.1.1.1, ⟨hk.1.2, ⟨hk.1.1.2.1, hk.1.1.2.2.1⟩⟩⟩)⟩, ⟨by (with_reducible repeat (first | apply Kd.R_alloc | apply Kd.R_drewN | apply Kd.R_drew)); exact Kd.R_mono (Kd.R_far (p := ⟨gb107, 0, none⟩) (Kd.R_types HO140.out BK107.out (by decide)) (fun _ hk => hk.2) (.slice Ao60 y138.length co60)) (fun _ hk => hk.1.1)⟩, ⟨by (with_reducible repeat (first | refine blk_drewN ?_ _ | refine blk_drew ?_ | refine blk_alloc ?_ _)); refine blk_far ?_ NB106_107.out _; (with_reducible repeat (first | refine blk_drewN ?_ _ | refine blk_drew ?_ | refine blk_alloc ?_ _)); exact BK106.out⟩, ⟨by (with_reducible repeat (first | refine blk_drewN ?_ _ | refine blk_drew ?_ | refine blk_alloc ?_ _)); refine blk_put (cs := #[u108000, .bool x108001_2]) ?_ 0 _ rfl; (with_reducible repeat (first | refine blk_drewN ?_ _ | refine blk_drew ?_ | refine blk_alloc ?_ _)); exact BK107.out⟩, ⟨by repeat (first | (with_reducible first | exact HB.out | apply below_alloc | apply pw_below_drewN | apply below_drew1 | refine below_set ?_ GE106.out | refine below_set ?_ GE107.out | refine below_set ?_ GE116.out) | exact HB.out)⟩⟩
                    · rw [if_neg c50] at H
                      exact absurd H (by simp)
                  · rw [if_neg c49] at H
                    exact absurd H (by simp)
              · rw [if_neg c12] at H
                exact absurd H (by simp)
            · rw [if_neg c11] at H
              have c11b0 : decide (0 < (x0_2.length : Int)) = false := decide_eq_false c11
              have c11b1 : decide (0 < x0_2.length) = false := decide_eq_false (by omega)
              clear c11
              simp only [Option.some.injEq, Prod.mk.injEq] at H
              obtain ⟨rfl, rfl⟩ := H
              obtain ⟨Ao62, co62, eo62⟩ := Kd.V_slice HO_0.out
              subst eo62
              have hnb63 := NB107_106.out
              have hnc63 := NB106_107.out
              have hcz64_0 : wr.cell? ⟨gb107, 0, none⟩ = some (u108000) := (blk_cell BK107.out 0).trans rfl
              have hcz64_1 : wr.cell? ⟨gb107, 1, none⟩ = some (.bool x108001_2) := (blk_cell BK107.out 1).trans rfl
              have hfz64_0 := blk_frozen BK107.out 0
              have hfz64_1 := blk_frozen BK107.out 1
              obtain ⟨Ao65, co65, eo65⟩ := Kd.R_slice HO_108000.out
              subst eo65
              have hcz66_0 : wr.cell? ⟨gb106, 0, none⟩ = some (.slice none 0 0) := (blk_cell BK106.out 0).trans rfl
              have hcz66_1 : wr.cell? ⟨gb106, 1, none⟩ = some (.bool false) := (blk_cell BK106.out 1).trans rfl
              have hfz66_0 := blk_frozen BK106.out 0
              have hfz66_1 := blk_frozen BK106.out 1
              go_wp2
              refine bodyPost_ret (results_cell_row rfl _ _ gb106 57 #[.slice Ao65 x108000_2.length co65, .bool x108001_2] (0, 0) _ rfl (by (with_reducible repeat (first | refine blk_drewN ?_ _ | refine blk_drew ?_ | refine blk_alloc ?_ _)); refine blk_put (cs := #[.slice Ao65 x108000_2.length co65, .bool false]) ?_ 1 _ rfl; (with_reducible repeat (first | refine blk_drewN ?_ _ | refine blk_drew ?_ | refine blk_alloc ?_ _)); refine blk_put (cs := #[.slice none 0 0, .bool false]) ?_ 0 _ rfl; (with_reducible repeat (first | refine blk_drewN ?_ _ | refine blk_drew ?_ | refine blk_alloc ?_ _)); exact BK106.out) Try.underlying57 rfl (by kernel_rfl)) rfl ?_
              exact ⟨_, by first | rfl | (simp [errW_none, errW_some] <;> rfl) | (simp [*, errW_none, errW_some] <;> rfl), by (with_reducible repeat (first | apply Kd.R_alloc | apply Kd.R_drewN | apply Kd.R_drew)); exact Kd.R_mono (Kd.R_far (p := ⟨gb106, 1, none⟩) (Kd.R_far (p := ⟨gb106, 0, none⟩) (Kd.R_types HO_108000.out BK106.out (by decide)) (fun _ hk => hk.2) (.slice Ao65 x108000_2.length co65)) (fun _ hk => hk.2) (.bool x108001_2)) (fun _ hk => hk.1), by repeat (first | (with_reducible first | exact HB.out | apply below_alloc | apply pw_below_drewN | apply below_drew1 | refine below_set ?_ GE106.out | refine below_set ?_ GE107.out) | exact HB.out)⟩
  · rw [if_neg c2] at H
    exact absurd H (by simp)

end Go.Proofs.Ytmejbponpkkobaa.P
