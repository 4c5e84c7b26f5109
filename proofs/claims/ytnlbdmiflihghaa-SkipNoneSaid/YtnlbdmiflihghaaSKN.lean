/- A nil list has nothing. Conditions: each theorem names its own. -/
import Derived.Test.YtnlbdmiflihghaaSKL
namespace Go.Proofs.Ytnlbdmiflihghaa.P
open Go.RowKit Go.Shelf Go.Proofs.YtnlbdmiflihghaaW.PrintWords Go.Proofs.YtnlbdmiflihghaaW.PrintLast Go.Proofs.YtnlbdmiflihghaaW.PrintMore Go.Proofs.Ytnlbdmiflihghaa.SK
attribute [local go_sem] Oper.semAt_some

set_option maxHeartbeats 2000000 in
theorem seek_nil (e : En) (w : World) : Calls Try.prog 14 #[.pointer none, .agg #[.string e.1, .int .i64 e.2]] w fun r w' => r = .returned (.tuple #[.int .i64 0, .bool false]) ∧ Below w.heap.size w w' := by
  go_enter Try.func14, Try.ntmps14
  go_wp2
  go_ret2
  exact ⟨rfl, below_alloc (Below.refl _ _) _⟩
theorem at_nil (i : Int) (w : World) : Calls Try.prog 13 #[.pointer none, .int .i64 i] w fun e w' => e = .returned (.tuple #[.agg #[.string ⟨#[]⟩, .int .i64 0], .bool false]) ∧ Below w.heap.size w w' :=
  at_out none 0 i w (fun w' _ => len_nil w') (by omega)
theorem inF_nil (f : Int) : inF 0 f = 0 := by
  obtain ⟨F, T, h1, h2, h3, h4⟩ := in_nat 0 f 0
  have : inF 0 f = F := h1
  omega
theorem inT_nil (f t : Int) : inT 0 f t = 0 := by
  obtain ⟨F, T, h1, h2, h3, h4⟩ := in_nat 0 f t
  have : inT 0 f t = T := h2
  omega
theorem within_nil (f t : Int) (w : World) : Calls Try.prog 37 #[.pointer none, .int .i64 f, .int .i64 t] w fun e w' => e = .returned (.tuple #[.int .i64 0, .int .i64 0]) ∧ w' = w := by
  have := within_of none 0 f t w (len_nil w)
  rw [inF_nil, inT_nil] at this
  exact this
set_option maxHeartbeats 2000000 in
theorem delete_nil (e : En) (w : World) : Calls Try.prog 27 #[.pointer none, .agg #[.string e.1, .int .i64 e.2]] w fun r w' => r = .returned (.bool false) ∧ Below w.heap.size w w' := by
  have hb1 : Below w.heap.size w (w.alloc (.cells #[.string e.1, .int .i64 e.2] 28)) := below_alloc (Below.refl _ _) _
  have hs := seek_nil e (w.alloc (.cells #[.string e.1, .int .i64 e.2] 28))
  go_enter Try.func27, Try.ntmps27
  go_wp2_with fail
  refine hs.mono ?_
  rintro r w2 ⟨rfl, hb2⟩
  go_wp2
  go_ret
  exact ⟨rfl, hb1.trans (hb2.mono hb1.size)⟩
set_option maxHeartbeats 2000000 in
theorem back_nil (f t : Int) (w : World) : Calls Try.prog 28 #[.pointer none, .int .i64 f, .int .i64 t] w fun r w' => r = .returned (.slice none 0 0) ∧ w' = w := by
  have hs := within_nil f t w
  go_enter Try.func28, Try.ntmps28
  go_wp2_with fail
  refine hs.mono ?_
  rintro r w2 ⟨rfl, rfl⟩
  go_wp2
  go_ret
  exact ⟨rfl, rfl⟩
set_option maxHeartbeats 2000000 in
theorem cut_nil (f t : Int) (w : World) : Calls Try.prog 26 #[.pointer none, .int .i64 f, .int .i64 t] w fun r w' => r = .returned (.int .i64 0) ∧ w' = w := by
  have hs := within_nil f t w
  go_enter Try.func26, Try.ntmps26
  go_wp2_with fail
  refine hs.mono ?_
  rintro r w2 ⟨rfl, rfl⟩
  go_wp2
  go_loopg [19] 0 (fun gk v19 wr => v19 = .int .i64 0 ∧ wr = w2)
  case atStart => exact ⟨rfl, rfl⟩
  case round =>
    obtain ⟨rfl, rfl⟩ := hrel
    go_wp2
    go_ret
    exact ⟨rfl, rfl⟩
set_option maxHeartbeats 8000000 in
set_option maxRecDepth 100000 in
theorem nodes1_nil (n0 B0 B1 B2 : Nat) (f t : Int) (w : World) (h0 : w.cell? ⟨B0, 0, none⟩ = some (.pointer none)) (h1 : w.cell? ⟨B1, 0, none⟩ = some (.int .i64 f)) (h2 : w.cell? ⟨B2, 0, none⟩ = some (.int .i64 t)) (hB : B0 < w.heap.size ∧ B1 < w.heap.size ∧ B2 < w.heap.size) :
    SeqStopsK Fence.wide 6 Try.prog 41 #[.pointer (some ⟨B0, 0, none⟩), .pointer (some ⟨B1, 0, none⟩), .pointer (some ⟨B2, 0, none⟩)] (nenc 0 []) (Below n0) (fun ys => ys = []) (fun _ => False) 0 w := fun lp J Jx W hW _ _ _ hj0 => by
  refine callsIn_wide.2 ?_
  replace h0 := (hW.cell (p := ⟨B0, 0, none⟩) hB.1).trans h0
  replace h1 := (hW.cell (p := ⟨B1, 0, none⟩) hB.2.1).trans h1
  replace h2 := (hW.cell (p := ⟨B2, 0, none⟩) hB.2.2).trans h2
  have hs := within_nil f t W
  have HJ := Aside0.mk hj0
  clear hj0
  show Calls Try.prog 41 #[.func (.yield lp) #[] #[], .pointer (some ⟨B0, 0, none⟩), .pointer (some ⟨B1, 0, none⟩), .pointer (some ⟨B2, 0, none⟩)] W _
  go_enter Try.func41, Try.ntmps41
  go_wp2_with fail
  refine hs.mono ?_
  rintro r w2 ⟨rfl, rfl⟩
  go_wp2
  refine bodyPost_ret (results_none rfl _ _ _) rfl ?_
  exact ⟨⟨_, rfl⟩, .inl ⟨[], rfl, HJ.out⟩⟩
set_option maxHeartbeats 8000000 in
set_option maxRecDepth 100000 in
theorem range_nil (f t : Int) (w : World) : Calls Try.prog 20 #[.pointer none, .int .i64 f, .int .i64 t] w fun e w' => e = .returned (.slice none 0 0) ∧ Below w.heap.size w w' := by
  refine calls_of_wp_marks 8 Try.func20 rfl ?_
  simp only [Try.ntmps20, List.size_toArray, List.length_cons, List.length_nil, Nat.reduceAdd, Nat.reduceSub, Array.replicate_succ, Array.replicate_zero, List.push_toArray, List.append_toArray, List.nil_append, List.cons_append]
  go_wp2_with fail
  have a7 := Bk.one (W := w) (T := 42) (v := .slice none 0 0)
  have hb1 : Below w.heap.size w (w.alloc (.cells #[.slice none 0 0] 42)) := below_alloc (Below.refl _ _) _
  generalize World.alloc w _ = w1 at a7 hb1 ⊢
  refine (nodes_calls _ _ _ _).mono ?_
  rintro e w' ⟨rfl, rfl⟩
  go_wp2_with fail
  have hw : w.heap.size < w1.heap.size := a7.lt
  generalize hW0 : World.alloc _ (.cells #[.int .i64 t] 3) = W0
  obtain ⟨b0, b1, b2, hs0, hb0⟩ := boxes_new w1 _ _ _ W0 hW0
  clear hW0
  have hbW : Below w.heap.size w W0 := hb1.trans (hb0.mono hb1.size)
  have hst := nodes1_nil w.heap.size w1.heap.size (w1.heap.size + 1) (w1.heap.size + 1 + 1) f t W0 b0 b1 b2 (by omega)
  have A7 := Aside0.mk (a7.below hb0)
  have HBW := Aside0.mk hbW
  have HST := Aside0.mk hst
  clear a7 hb1 hb0 b0 b1 b2 hbW hst
  refine (wpIn_wide (n := 7)).1 ?_
  refine wpIn_rangeFunc_ownG rfl (by omega) (gf := 41) (lb := #[.pointer (some ⟨w1.heap.size, 0, none⟩), .pointer (some ⟨w1.heap.size + 1, 0, none⟩), .pointer (some ⟨w1.heap.size + 1 + 1, 0, none⟩)]) rfl trivial (enters_of Try.func41 (by kernel_rfl) rfl)
    HST.out (fun h k => h.trans k) (fun W l o o' hl h1 h2 h3 => belowK_b (w := w) (Nat.le_refl _) W l o o' (by omega) h1 h2 h3) (Below.refl _ _) (fun _ => rfl)
    (fun pre W => Below w.heap.size w W ∧ Bk W w.heap.size 42 1 (fun _ => .slice none 0 0))
    (fun _ _ _ => False)
    (fun s X Y row hs hg hr => ⟨hs.1.grown hg hs.1.size (fun k e => by have := (hr k e).1; omega), hs.2.own hg (fun r e => (hr r e).2)⟩)
    (fun _ _ _ _ _ hs _ _ => hs)
    ⟨HBW.out, A7.out⟩
    (fun x => { tmps := #[.pointer none, .int .i64 f, .int .i64 t, undef, undef, undef, .slice none 0 0, .pointer (some ⟨w.heap.size, 0, none⟩), .pointer (some ⟨nd 0 [] (x.1 + 1), 0, none⟩), .pointer none, .int .i64 f, .int .i64 t, .func (.func 41) #[] #[.pointer (some ⟨w1.heap.size, 0, none⟩), .pointer (some ⟨w1.heap.size + 1, 0, none⟩), .pointer (some ⟨w1.heap.size + 1 + 1, 0, none⟩)], .pointer (some ⟨nd 0 [] (x.1 + 1), 0, none⟩), undef, undef, undef, undef, undef, undef, undef, undef], defers := [] }) ?assign ?body ?done ?stop
  case assign =>
    intro lp x W K hK
    simp only [nenc] at hK ⊢
    gi_wp2
    exact hK
  case body => exact fun lp pre x W _ hlt => absurd hlt (Nat.not_lt_zero _)
  case done =>
    rintro D ys W hD hys ⟨hB, h7⟩ hK
    have hlW : w.heap.size < W.heap.size := h7.lt
    have c7 := h7.cell (show 0 < 1 by omega)
    have HB := Aside0.mk hB
    clear h7 hB
    gi_wp2
    go_wp2
    refine ⟨by simp, .inl ⟨_, _, rfl, run_takeDeferred hK, ?_⟩⟩
    exact ⟨_, results_tmp (t := 6) rfl _ _ _, rfl, HB.out.trans (belowK_b (w := w) (Nat.le_refl _) W D _ _ (by omega) hK rfl rfl)⟩
  case stop =>
    rintro D c pre W hD hpre h _
    exact h.elim
end Go.Proofs.Ytnlbdmiflihghaa.P
